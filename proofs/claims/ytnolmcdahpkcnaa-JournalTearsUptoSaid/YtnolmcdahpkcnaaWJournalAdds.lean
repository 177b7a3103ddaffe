/- JournalAdds: the walk. -/
import Derived.Test.YtnolmcdahpkcnaaWJournalHurt
import Derived.Test.YtnolmcdahpkcnaaFu
namespace Go.Proofs.Ytnolmcdahpkcnaa
open Go.RowKit
set_option linter.unusedVariables false

theorem add_below {w w' : World} {base g B : Nat} {vb vl : Value} {rows : List Value} {bs bs' : List UInt8} {bss bss' : List (List UInt8)} {e : Ending} (hj : JrnV w base g vb vl rows bs bss) (h : AddPost w base g vb vl bs' bss' e w') (hB : B ≤ base) : Below B w w' := by
  obtain ⟨_, _, _, _, _, hM, _⟩ := h
  have hg := hj.blk.lt
  have hb := hj.at_
  refine hM.below (fun k hk => ?_) (by omega)
  rcases hk with rfl | hk | hk
  · omega
  · have := (hj.bytes.lt k hk).1; omega
  · have := (hj.list.lt k hk).1; omega
theorem wr_base {w : World} {base g : Nat} {vb vl : Value} {rows : List Value} {bs : List UInt8} {bss : List (List UInt8)} (hj : JrnV w base g vb vl rows bs bss) {b : Nat} (hb : b < base) : ¬ Wr g vb vl b := by
  rintro (rfl | h | h)
  · have := hj.at_; omega
  · have := (hj.bytes.lt b h).1; omega
  · have := (hj.list.lt b h).1; omega
theorem scan_all (l : List (List UInt8)) (h : ∀ r ∈ l, r.length ≤ 65536) : scanS (framesL l) = (l, longN l, 0) := by
  have := scan_frames l [] h
  rw [List.append_nil, scan_nil] at this
  rw [this]; simp
theorem longN_append (a b : List (List UInt8)) : longN (a ++ b) = longN a + longN b := by unfold longN; rw [framesL_append, List.length_append]

set_option maxHeartbeats 2000000 in
theorem walk_journalAdds (a0 : Option Addr) (len0 cap0 : Nat) (bss0 : List (List UInt8)) (a1 : Option Addr) (len1 cap1 : Nat) (bss1 : List (List UInt8)) (w : World) (hL : Lst w w.heap.size a0 len0 bss0) (hc1 : len0 ≤ cap0) (hc2 : cap0 ≤ 9223372036854775807)
    (hL1 : Lst w w.heap.size a1 len1 bss1) (hd1 : len1 ≤ cap1) (hd2 : cap1 ≤ 9223372036854775807) (hbulk : (len0 + bss0.flatten.length) + (len1 + bss1.flatten.length) ≤ 1048576) :
    Calls Try.prog 8 #[.slice a0 len0 cap0, .slice a1 len1 cap1] w fun e w' => e = .returned (.bool true) ∧ Below w.heap.size w w' := by
  obtain ⟨i1, hi1, hy0, hy1, hy2⟩ := info_parts rows_info
  have HL := Lib.hid hL
  have HL1 := Lib.hid hL1
  have hflat := longN_flat bss0
  rw [hL.1] at hflat
  have hflat1 := longN_flat bss1
  rw [hL1.1] at hflat1
  have hlong := long_calls w w.heap.size a0 len0 cap0 bss0 hL (by omega)
  have hlong1 := long_calls w w.heap.size a1 len1 cap1 bss1 hL1 (by omega)
  obtain ⟨t0, ht0⟩ : ∃ t0, longN bss0 = t0 := ⟨_, rfl⟩
  obtain ⟨t1, ht1⟩ : ∃ t1, longN bss1 = t1 := ⟨_, rfl⟩
  have HT0 := Lib.hid ht0
  have HT1 := Lib.hid ht1
  rw [ht0] at hflat hlong
  rw [ht1] at hflat1 hlong1
  clear hL hL1 ht0 ht1
  by_cases hbig : 2000 < t0
  · have HLO : Hid (Calls Try.prog 17 #[.slice a0 len0 cap0] w fun e w' => e = .returned (.bool true) ∧ w = w') := by
      rw [decide_eq_true (by omega)] at hlong; exact hlong
    clear hlong hlong1 hflat hflat1 hbulk
    go_enter Try.func8, Try.ntmps8
    go_wp2_with fail
    refine HLO.out.mono ?_
    rintro e w' ⟨rfl, rfl⟩
    go_wp2_with fail
    refine (known_calls _).mono ?_
    rintro e w1 ⟨rfl, hb⟩
    go_wp2_with fail
    go_ret
    exact ⟨rfl, hb⟩
  · have HLO : Hid (Calls Try.prog 17 #[.slice a0 len0 cap0] w fun e w' => e = .returned (.bool false) ∧ w = w') := by
      rw [decide_eq_false (by omega)] at hlong; exact hlong
    clear hlong
    by_cases hbig1 : 2000 < t1
    · have HLO1 : Hid (Calls Try.prog 17 #[.slice a1 len1 cap1] w fun e w' => e = .returned (.bool true) ∧ w = w') := by
        rw [decide_eq_true (by omega)] at hlong1; exact hlong1
      clear hlong1 hflat hflat1 hbulk
      go_enter Try.func8, Try.ntmps8
      go_wp2_with fail
      refine HLO.out.mono ?_
      rintro e w' ⟨rfl, rfl⟩
      go_wp2_with fail
      refine HLO1.out.mono ?_
      rintro e w' ⟨rfl, rfl⟩
      go_wp2_with fail
      refine (known_calls _).mono ?_
      rintro e w1 ⟨rfl, hb⟩
      go_wp2_with fail
      go_ret
      exact ⟨rfl, hb⟩
    · have HLO1 : Hid (Calls Try.prog 17 #[.slice a1 len1 cap1] w fun e w' => e = .returned (.bool false) ∧ w = w') := by
        rw [decide_eq_false (by omega)] at hlong1; exact hlong1
      have hl0 : len0 ≤ 2000 := by omega
      have hl1 : len1 ≤ 2000 := by omega
      obtain ⟨n, hn⟩ : ∃ n, n = len0 + len1 := ⟨_, rfl⟩
      have hnn : n ≤ 4000 := by omega
      have HM0 : Hid (∀ r ∈ bss0, r.length ≤ 65536) := fun r hr => Nat.le_trans (mem_le (N := 2000) (by rw [HT0.out]; omega) r hr) (by omega)
      have HM1 : Hid (∀ r ∈ bss1, r.length ≤ 65536) := fun r hr => Nat.le_trans (mem_le (N := 2000) (by rw [HT1.out]; omega) r hr) (by omega)
      have HMA : Hid (∀ r ∈ bss0 ++ bss1, r.length ≤ 65536) := fun r hr => by
        rcases List.mem_append.1 hr with h | h
        · exact HM0.out r h
        · exact HM1.out r h
      have HTA : Hid (longN (bss0 ++ bss1) ≤ 4000) := by unfold Hid; rw [longN_append, HT0.out, HT1.out]; omega
      have HNA : Hid ((bss0 ++ bss1).length = n) := by unfold Hid; rw [List.length_append, HL.out.1, HL1.out.1, hn]
      clear hlong1 hflat hflat1 hbulk
      go_enter Try.func8, Try.ntmps8
      go_wp2_with fail
      refine HLO.out.mono ?_
      rintro e w' ⟨rfl, rfl⟩
      go_wp2_with fail
      refine HLO1.out.mono ?_
      rintro e w' ⟨rfl, rfl⟩
      go_wp2_with fail
      refine (new_calls w).mono ?_
      rintro e w1 ⟨rfl, hw1⟩
      have hJ : JrnV w1 w.heap.size w.heap.size (.slice none 0 0) (.slice none 0 0) [] [] [] := by rw [← hw1]; exact new_jrn w
      have hb1 : Below w.heap.size w w1 := by rw [← hw1]; exact (Below.refl _ _).alloc (Nat.le_refl _) _
      have HJ := Lib.hid hJ
      have HB1 := Lib.hid hb1
      clear hw1 hJ hb1
      go_wp2_with fail
      refine (add_calls w1 _ _ _ _ _ _ _ HJ.out (· < w.heap.size) (fun b hb => ⟨Nat.lt_of_lt_of_le hb HB1.out.size, wr_base HJ.out hb⟩) a0 len0 cap0 bss0 (HL.out.below HB1.out).lsk
        (fun i hi => by rw [getD_eq hi]; exact HM0.out _ (List.getElem_mem _)) (by show 0 + longN bss0 ≤ _; rw [HT0.out]; omega) (by simp)).mono ?_
      intro e w2 hA
      have hb2 := add_below HJ.out hA (Nat.le_refl _)
      obtain ⟨vb2, vl2, rows2, rfl, hJ2, _⟩ := hA
      have HJ2 := Lib.hid hJ2
      have HB2 := Lib.hid (HB1.out.trans hb2)
      clear hJ2 hb2
      go_wp2_with fail
      refine (add_calls w2 _ _ _ _ _ _ _ HJ2.out (· < w.heap.size) (fun b hb => ⟨Nat.lt_of_lt_of_le hb HB2.out.size, wr_base HJ2.out hb⟩) a1 len1 cap1 bss1 (HL1.out.below HB2.out).lsk
        (fun i hi => by rw [getD_eq hi]; exact HM1.out _ (List.getElem_mem _)) (by show (framesL bss0).length + longN bss1 ≤ _; rw [HT1.out, show (framesL bss0).length = t0 from HT0.out]; omega) (by simp only [List.nil_append]; rw [HL.out.1]; omega)).mono ?_
      intro e w3 hA
      have hb3 := add_below HJ2.out hA (Nat.le_refl _)
      obtain ⟨vb3, vl3, rows3, rfl, hJ3, _⟩ := hA
      have HJ3 : Hid (JrnV w3 w.heap.size w.heap.size vb3 vl3 rows3 (framesL (bss0 ++ bss1)) (bss0 ++ bss1)) := by unfold Hid; rw [framesL_append]; exact hJ3
      have HB3 := Lib.hid (HB2.out.trans hb3)
      have hs3 := HB3.out.size
      clear hJ3 hb3
      go_wp2_with fail
      refine (new_calls w3).mono ?_
      rintro e w4 ⟨rfl, hw4⟩
      have hK4 : JrnV w4 w3.heap.size w3.heap.size (.slice none 0 0) (.slice none 0 0) [] [] [] := by rw [← hw4]; exact new_jrn w3
      have hb4 : Below w3.heap.size w3 w4 := by rw [← hw4]; exact (Below.refl _ _).alloc (Nat.le_refl _) _
      have hs4 : w3.heap.size < w4.heap.size := hK4.blk.lt
      have HK4 := Lib.hid hK4
      have HB34 := Lib.hid hb4
      have HB4 := Lib.hid (HB3.out.trans (hb4.mono hs3))
      clear hw4 hK4 hb4
      obtain ⟨rowsA, hRA, hReA⟩ := LsK.to_rows (B := w.heap.size) (HL.out.below HB4.out).lsk (fun b hb => hb)
      obtain ⟨rowsB, hRB, hReB⟩ := LsK.to_rows (B := w.heap.size) (HL1.out.below HB4.out).lsk (fun b hb => hb)
      have HRA := Lib.hid hRA
      have HRB := Lib.hid hRB
      have HReA := Lib.hid hReA
      have HReB := Lib.hid hReB
      clear hRA hRB hReA hReB
      go_wp2_with (first
        | (at_builtin
           refine wpList_append_any _ rfl (.tmp 29) (.tmp 30) _ rfl w4.heap.size 22 i1 _ 1 24 Try.underlying34 hi1 hy0 hy1 hy2 rfl (by omega) (.slice none 0 0) 0 [] rfl
             (World.ownsRow_nil _ _ _ _) w.heap.size a0 len0 cap0 rowsA rfl HReA.out HRA.out.one (by simp only [maxLen]; omega) (by omega) (by exact Nat.le_refl _) ?_
           intro v5 w5 hown5 hg5 hat5
           have HO5 : Hid (w5.ownsRow w4.heap.size 22 1 v5 len0 rowsA) := by unfold Hid; simpa using hown5
           have HK5 : Hid (Below w4.heap.size w4 w5) := (Below.refl _ _).grown hg5 (Nat.le_refl _) (fun k hk => by simp [Value.ownBlock] at hk)
           clear hown5 hg5 hat5)
        | (at_builtin
           refine wpList_append_any _ rfl (.tmp 32) (.tmp 33) _ rfl w4.heap.size 22 i1 _ 1 24 Try.underlying34 hi1 hy0 hy1 hy2 rfl (by omega) v5 len0 rowsA rfl
             HO5.out w.heap.size a1 len1 cap1 rowsB rfl (HReB.out.below (HK5.out.mono HB4.out.size)) HRB.out.one (by simp only [maxLen]; omega) (by omega) HK5.out.size ?_
           intro v6 w6 hown6 hg6 hat6
           have HO6 : Hid (w6.ownsRow w4.heap.size 22 1 v6 n (rowsA ++ rowsB)) := by unfold Hid; rw [hn]; exact hown6
           have HK6 : Hid (Below w4.heap.size w4 w6) := HK5.out.grown hg6 HK5.out.size (fun k hk => (HO5.out.lt k hk).1)
           clear hown6 hg6 hat6))
      have hs6 := HK6.out.size
      have HB6 := Lib.hid (HB4.out.trans (HK6.out.mono HB4.out.size))
      have hRK : RowK w6 (fun b => b < w6.heap.size ∧ b ≠ w3.heap.size) (rowsA ++ rowsB) (bss0 ++ bss1) :=
        ((HRA.out.append HRB.out).keep fun b hb => (HK6.out.block b (Nat.lt_of_lt_of_le hb HB4.out.size))).imp fun b hb => ⟨by omega, by omega⟩
      obtain ⟨A6, c6, hv6, q6, q6', hLA⟩ := own_lsk HO6.out hRK HNA.out (fun b hb => by have := HO6.out.lt b hb; exact ⟨this.2, by omega⟩)
      subst hv6
      have HLA := Lib.hid hLA
      have HJ6 : Hid (JrnV w6 w3.heap.size w3.heap.size (.slice none 0 0) (.slice none 0 0) [] [] []) := HK4.out.keep fun k _ hk => HK6.out.block k hk
      have HJ36 : Hid (JrnV w6 w.heap.size w.heap.size vb3 vl3 rows3 (framesL (bss0 ++ bss1)) (bss0 ++ bss1)) := HJ3.out.keep fun k _ hk => ((HB34.out.trans (HK6.out.mono (Nat.le_of_lt hs4))).block k hk)
      have hjo : Hid (∀ k, vb3.ownBlock = some k ∨ vl3.ownBlock = some k ∨ k = w.heap.size → k < w3.heap.size) := fun k hk => by
        rcases hk with h | h | h
        · exact (HJ3.out.bytes.lt k h).2
        · exact (HJ3.out.list.lt k h).2
        · subst h; exact HJ3.out.blk.lt
      have HJ3lt : Hid (∀ W, Moved w6 W (fun b => b = w3.heap.size) → JrnV W w.heap.size w.heap.size vb3 vl3 rows3 (framesL (bss0 ++ bss1)) (bss0 ++ bss1)) := fun W hM =>
        HJ3.out.keep fun k _ hk => (hM.block k (by omega) (by omega)).trans ((HB34.out.trans (HK6.out.mono (Nat.le_of_lt hs4))).block k hk)
      obtain ⟨L, hLd⟩ : ∃ L, bss0 ++ bss1 = L := ⟨_, rfl⟩
      rw [hLd] at HMA HTA HNA HLA HJ3lt
      clear hRK hLA HJ36 hjo HJ3 HO6 HO5 HRA HRB HReA HReB HM0 HM1 HLO HLO1 HJ HJ2 hn hLd
      go_wp2_with fail
      go_loopw [10] (fun i wr => ∃ (m : Nat) (vb vl : Value) (rows : List Value), m ≤ n ∧ i = .int .i64 m ∧ JrnV wr w3.heap.size w3.heap.size vb vl rows (framesL (L.take m)) (L.take m) ∧ Moved w6 wr (fun b => b = w3.heap.size) ∧ (∀ k, vb.ownBlock = some k → w6.heap.size ≤ k) ∧ (∀ k, vl.ownBlock = some k → w6.heap.size ≤ k)) (fun i _ => n - (intOf i).toNat)
      case atStart => exact ⟨0, _, _, _, Nat.zero_le _, rfl, by rw [List.take_zero]; exact HJ6.out, Moved.refl _ _, fun k hk => by simp [Value.ownBlock] at hk, fun k hk => by simp [Value.ownBlock] at hk⟩
      case round =>
        obtain ⟨m, vb, vl, rows, hm, rfl, hJr, hMv, hvb, hvl⟩ := hrel
        have HJR := Lib.hid hJr
        have HMV := Lib.hid hMv
        have HVB := Lib.hid hvb
        have HVL := Lib.hid hvl
        have hsr := hMv.size
        clear hJr hMv hvb hvl
        by_cases hlt : m < n
        · have hLR := HLA.out.keep (w' := wr) fun b hb => HMV.out.block b hb.1 hb.2
          rcases hLR.2 with h1 | ⟨b, off, rfl, hb, hcc⟩
          · omega
          obtain ⟨A1, l, cl, h1, h2, h3, h4⟩ := hcc m hlt
          have hcell : wr.cell? ⟨b, off + m, none⟩ = some (.slice A1 l cl) := h1
          have hJW : JrnV (wr.alloc (.cells #[.slice A1 l cl] 22)) w3.heap.size w3.heap.size vb vl rows (framesL (L.take m)) (L.take m) := HJR.out.keep fun k _ hk => ((Below.refl wr.heap.size wr).alloc (Nat.le_refl _) _).block k hk
          have hLK : LsK (wr.alloc (.cells #[.slice A1 l cl] 22)) (fun b => (b < w6.heap.size ∧ b ≠ w3.heap.size) ∨ b = wr.heap.size) (some ⟨wr.heap.size, 0, none⟩) 1 [L.getD m []] := by
            refine ⟨rfl, .inr ⟨wr.heap.size, 0, rfl, .inr rfl, fun i hi => ?_⟩⟩
            obtain rfl : i = 0 := by omega
            exact ⟨A1, l, cl, by rw [cell_new rfl]; rfl, h2, h3, (h4.keep fun k hk => ((Below.refl wr.heap.size wr).alloc (Nat.le_refl _) _).block k (Nat.lt_of_lt_of_le hk.1 hsr)).imp fun b hb => .inl hb⟩
          have hTm : longN (L.take m) ≤ 4000 := Nat.le_trans (longN_le L m) HTA.out
          have hadd := add_calls _ _ _ _ _ _ _ _ hJW _ (fun b hb => ⟨by simp; rcases hb with hb | hb <;> omega, fun hw => by
              rcases hw with hw | hw | hw
              · rcases hb with hb | hb
                · exact hb.2 hw
                · have := HJR.out.blk.lt; omega
              · rcases hb with hb | hb
                · have := HVB.out b hw; omega
                · have := (HJR.out.bytes.lt b hw).2; omega
              · rcases hb with hb | hb
                · have := HVL.out b hw; omega
                · have := (HJR.out.list.lt b hw).2; omega⟩) _ 1 1 [L.getD m []] hLK (fun i hi => by
              obtain rfl : i = 0 := by simp at hi; omega
              show (L.getD m []).length ≤ _
              rw [getD_eq (by rw [HNA.out]; exact hlt)]; exact HMA.out _ (List.getElem_mem _)) (by
              have hx : (L.getD m []).length ≤ 65536 := by rw [getD_eq (by rw [HNA.out]; exact hlt)]; exact HMA.out _ (List.getElem_mem _)
              rw [framesL_one, frame_len]
              have : (framesL (L.take m)).length ≤ 4000 := hTm
              omega) (by rw [List.length_take]; omega)
          rw [framesL_one, ← framesL_take (by rw [HNA.out]; exact hlt), ← take_all L [] m (by rw [HNA.out]; exact hlt)] at hadd
          have HADD := Lib.hid hadd
          clear hLR hcc h1 h4 hJW hLK hadd hTm
          go_wp2_with fail
          refine HADD.out.mono ?_
          rintro e w7 ⟨vb', vl', rows', rfl, hJ7, hM7, hvb', hvl'⟩
          have HJ7 := Lib.hid hJ7
          have HM7 : Hid (Moved w6 w7 (fun b => b = w3.heap.size)) := (HMV.out.alloc _).trans hM7 (fun i hi hs => by
            rcases hs with h | h | h
            · exact h
            · have := HVB.out i h; omega
            · have := HVL.out i h; omega)
          have HVB' : Hid (∀ k, vb'.ownBlock = some k → w6.heap.size ≤ k) := fun k hk => by
            rcases hvb' k hk with h | h
            · exact HVB.out k h
            · simp at h; omega
          have HVL' : Hid (∀ k, vl'.ownBlock = some k → w6.heap.size ≤ k) := fun k hk => by
            rcases hvl' k hk with h | h
            · exact HVL.out k h
            · simp at h; omega
          clear hJ7 hM7 hvb' hvl'
          go_wp2_with fail
          go_roundw
          case rel => exact ⟨m + 1, vb', vl', rows', by omega, by go_num, HJ7.out, HM7.out, HVB'.out, HVL'.out⟩
          case measure => simp [intOf]; omega
        · obtain rfl : m = n := by omega
          have htk : L.take m = L := List.take_of_length_le (by rw [HNA.out]; exact Nat.le_refl _)
          have HJK : Hid (JrnV wr w3.heap.size w3.heap.size vb vl rows (framesL L) L) := by
            have := HJR.out; rw [htk] at this; exact this
          have HJJ := Lib.hid (HJ3lt.out wr HMV.out)
          have HLR := Lib.hid (HLA.out.keep (w' := wr) fun b hb => HMV.out.block b hb.1 hb.2)
          have HBW : Hid (Below w.heap.size w wr) := HB6.out.trans (HMV.out.below (fun k hk => by subst hk; exact hs3) HB6.out.size)
          have HLW : Hid (Lst wr wr.heap.size A6 m L) := HLR.out.lst fun b hb => Nat.lt_of_lt_of_le hb.1 hsr
          obtain ⟨T, hT⟩ : ∃ T, longN L = T := ⟨_, rfl⟩
          have HT := Lib.hid hT
          have hT4 : T ≤ 4000 := by rw [← hT]; exact HTA.out
          have hTl : Hid ((framesL L).length = T) := hT
          have hscan : Hid (scanS (framesL L) = (L, T, 0)) := by
            have := scan_all L HMA.out
            rw [hT] at this; exact this
          have hJJJ : Jrn wr w.heap.size w.heap.size (framesL L) L := by
            have := HJJ.out
            exact ⟨_, _, _, by first | exact this | (rw [← htk]; exact this)⟩
          have HJJJ := Lib.hid hJJJ
          have hby : Hid (Calls Try.prog 25 #[.pointer (some ⟨w.heap.size, 0, none⟩)] wr (RetB wr (framesL L))) := bytes_calls wr _ _ _ _ hJJJ (by rw [hTl.out]; omega)
          clear htk hJJJ HJR HJJ hT
          go_wp2_with fail
          refine hby.out.mono ?_
          rintro e w7 ⟨v7, rfl, hO7, hb7⟩
          obtain ⟨A7, c7, rfl, q7, q7', hB7⟩ := hO7.form_ hTl.out
          have hop := open_calls w7 A7 T c7 _ hB7 q7 q7' (by omega)
          rw [hscan.out] at hop
          have HOP := Lib.hid hop
          have HK7 := Lib.hid hb7
          clear hO7 hB7 hb7 hop
          go_wp2_with fail
          refine HOP.out.mono ?_
          rintro e w8 ⟨g8, rfl, hJ8, hb8⟩
          rw [Int.sub_self]
          have HJO : Hid (Jrn w8 w7.heap.size g8 (framesL L) L) := by
            have h1 := hJ8
            simp only at h1
            rw [List.take_of_length_le (by rw [hTl.out]; exact Nat.le_refl _)] at h1
            exact h1
          have hK8 : Below wr.heap.size wr w8 := HK7.out.trans (hb8.mono HK7.out.size)
          have HK8 := Lib.hid hK8
          have hRL : ∀ i, i < L.length → (L.getD i []).length ≤ 100000000 := fun i hi => by rw [getD_eq hi]; exact Nat.le_trans (HMA.out _ (List.getElem_mem _)) (by omega)
          have hRJ : Hid (∀ W, Below w8.heap.size w8 W → Calls Try.prog 23 #[.pointer (some ⟨w.heap.size, 0, none⟩)] W (RetL W L)) := fun W hb => records_calls W _ _ _ _ ((HJJJ.out.below HK8.out).below hb) (by rw [HNA.out]; omega) hRL
          have hRO : Hid (∀ W, Below w8.heap.size w8 W → Calls Try.prog 23 #[.pointer (some ⟨g8, 0, none⟩)] W (RetL W L)) := fun W hb => records_calls W _ _ _ _ (HJO.out.below hb) (by rw [HNA.out]; omega) hRL
          have hLJ : Hid (∀ W, Below w8.heap.size w8 W → Calls Try.prog 24 #[.pointer (some ⟨w.heap.size, 0, none⟩)] W fun e w' => e = .returned (.int .i64 m) ∧ W = w') := fun W hb => by
            have := len_calls W _ _ _ _ ((HJJJ.out.below HK8.out).below hb); rwa [HNA.out] at this
          have hBJ : Hid (∀ W, Below w8.heap.size w8 W → Calls Try.prog 25 #[.pointer (some ⟨w.heap.size, 0, none⟩)] W (RetB W (framesL L))) := fun W hb => bytes_calls W _ _ _ _ ((HJJJ.out.below HK8.out).below hb) (by rw [hTl.out]; omega)
          have hBK : Hid (∀ W, Below w8.heap.size w8 W → Calls Try.prog 25 #[.pointer (some ⟨w3.heap.size, 0, none⟩)] W (RetB W (framesL L))) := fun W hb => bytes_calls W _ _ _ _ ((Jrn.below ⟨_, _, _, HJK.out⟩ HK8.out).below hb) (by rw [hTl.out]; omega)
          have hLW : ∀ W, Below w8.heap.size w8 W → Lst W W.heap.size A6 m L := fun W hb => ((HLW.out.below HK8.out).below (hb.mono HK8.out.size)).more (Nat.le_trans HK8.out.size hb.size)
          have hFA : Hid (∀ W, Below w8.heap.size w8 W → Calls Try.prog 18 #[.slice A6 m c6] W (RetB W (framesL L))) := fun W hb => frames_calls W A6 m c6 L (hLW W hb) (fun i hi => by rw [getD_eq hi]; exact HMA.out _ (List.getElem_mem _)) (by rw [HT.out]; omega)
          have hLs : Hid (∀ W A c, Below w8.heap.size w8 W → Lst W W.heap.size A m L → m ≤ c → c ≤ 9223372036854775807 → Calls Try.prog 20 #[.slice A m c, .slice A6 m c6] W fun e w' => e = .returned (.bool true) ∧ ∃ m, w' = W.drewN m) := fun W A c hb hl h1 h2 =>
            lists_true hl (hLW W hb) h1 h2 q6 q6' W rfl
          have hSm : Hid (∀ W A c A' c', Byt W W.heap.size A T (framesL L) → Byt W W.heap.size A' T (framesL L) → Calls Try.prog 15 #[.slice A T c, .slice A' T c'] W fun e w' => e = .returned (.bool true) ∧ W = w') := fun W A c A' c' h h' => by
            have := same_calls W _ _ A A' T T c c' _ _ h h'
            rwa [beq_self_eq_true] at this
          clear hJ8 hb8 hRL hLW hK8
          go_wp2_with fail
          refine (hRJ.out w8 (Below.refl _ _)).mono ?_
          rintro e w9 ⟨v9, r9, rfl, hR9, hb9⟩
          obtain ⟨A9, c9, rfl, q9, q9', hL9⟩ := hR9.form_ HNA.out
          have HL9 := Lib.hid hL9
          have HK9 := Lib.hid hb9
          clear hR9 hL9 hb9
          go_wp2_with fail
          refine (hLs.out w9 A9 c9 HK9.out HL9.out q9 q9').mono ?_
          rintro e w' ⟨rfl, m1, rfl⟩
          have HK91 : Hid (Below w8.heap.size w8 (w9.drewN m1)) := below_drewN HK9.out m1
          go_wp2_with fail
          refine (hLJ.out _ HK91.out).mono ?_
          rintro e w' ⟨rfl, rfl⟩
          go_wp2_with fail
          refine (hBJ.out _ HK91.out).mono ?_
          rintro e w10 ⟨v10, rfl, hO10, hb10⟩
          obtain ⟨A10, c10, rfl, q10, q10', hB10⟩ := hO10.form_ hTl.out
          have HB10 := Lib.hid hB10
          have HK10 : Hid (Below w8.heap.size w8 w10) := HK91.out.trans (hb10.mono HK91.out.size)
          clear hO10 hB10 hb10
          go_wp2_with fail
          refine (hBK.out _ HK10.out).mono ?_
          rintro e w11 ⟨v11, rfl, hO11, hb11⟩
          obtain ⟨A11, c11, rfl, q11, q11', hB11⟩ := hO11.form_ hTl.out
          have HB11 := Lib.hid hB11
          have HB10' := Lib.hid ((HB10.out.below hb11).more hb11.size)
          have HK11 : Hid (Below w8.heap.size w8 w11) := HK10.out.trans (hb11.mono HK10.out.size)
          clear hO11 hB11 hb11
          go_wp2_with fail
          refine (hSm.out _ _ _ _ _ HB10'.out HB11.out).mono ?_
          rintro e w' ⟨rfl, rfl⟩
          go_wp2_with fail
          refine (hBJ.out _ HK11.out).mono ?_
          rintro e w12 ⟨v12, rfl, hO12, hb12⟩
          obtain ⟨A12, c12, rfl, q12, q12', hB12⟩ := hO12.form_ hTl.out
          have HB12 := Lib.hid hB12
          have HK12 : Hid (Below w8.heap.size w8 w12) := HK11.out.trans (hb12.mono HK11.out.size)
          clear hO12 hB12 hb12
          go_wp2_with fail
          refine (hFA.out _ HK12.out).mono ?_
          rintro e w13 ⟨v13, rfl, hO13, hb13⟩
          obtain ⟨A13, c13, rfl, q13, q13', hB13⟩ := hO13.form_ hTl.out
          have HB13 := Lib.hid hB13
          have HB12' := Lib.hid ((HB12.out.below hb13).more hb13.size)
          have HK13 : Hid (Below w8.heap.size w8 w13) := HK12.out.trans (hb13.mono HK12.out.size)
          clear hO13 hB13 hb13
          go_wp2_with fail
          refine (hSm.out _ _ _ _ _ HB12'.out HB13.out).mono ?_
          rintro e w' ⟨rfl, rfl⟩
          go_wp2_with fail
          refine (hRO.out _ HK13.out).mono ?_
          rintro e w14 ⟨v14, r14, rfl, hR14, hb14⟩
          obtain ⟨A14, c14, rfl, q14, q14', hL14⟩ := hR14.form_ HNA.out
          have HL14 := Lib.hid hL14
          have HK14 : Hid (Below w8.heap.size w8 w14) := HK13.out.trans (hb14.mono HK13.out.size)
          clear hR14 hL14 hb14
          go_wp2_with fail
          refine (hLs.out w14 A14 c14 HK14.out HL14.out q14 q14').mono ?_
          rintro e w' ⟨rfl, m2, rfl⟩
          have HK141 : Hid (Below w8.heap.size w8 (w14.drewN m2)) := below_drewN HK14.out m2
          go_wp2_with fail
          refine (known_calls _).mono ?_
          rintro e w15 ⟨rfl, hb15⟩
          have HKE : Hid (Below w.heap.size w w15) := (HBW.out.trans (HK8.out.mono HBW.out.size)).trans ((HK141.out.trans (hb15.mono HK141.out.size)).mono (Nat.le_trans HBW.out.size HK8.out.size))
          clear hb15
          go_wp2_with fail
          try rw [Exit.noGoto_ret]
          go_ret
          exact ⟨rfl, HKE.out⟩
end Go.Proofs.Ytnolmcdahpkcnaa
