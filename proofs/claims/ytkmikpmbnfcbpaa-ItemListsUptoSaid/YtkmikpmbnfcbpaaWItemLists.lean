/- ItemLists: the walk. -/
import Derived.Test.YtkmikpmbnfcbpaaHa
namespace Go.Proofs.Ytkmikpmbnfcbpaa
open Go.RowKit Go.Lib
set_option linter.unusedVariables false
open Tree Anyv

set_option maxHeartbeats 8000000 in
theorem walk_itemLists (t : Tree) (a : Option Addr) (c : Nat) (w : World) (hA : At w (· < w.heap.size) t a c) (hF : Wf t) (hbulk : (t.count + t.letters) ≤ 1048576) :
    Calls Try.prog 7 #[val t a c] w fun e w' => e = .returned (.bool true) ∧ Below w.heap.size w w' := by
  have hN : t.count ≤ 1000000000 := by omega
  have hnl : t.list.length ≤ 1000000000 := by have := length_countL t.list; have := count_eq t; omega
  obtain ⟨r1, hr1⟩ := kindR_some t 1
  obtain ⟨r2, hr2⟩ := kindR_some t 2
  have hbx := boxed (w := w) (k := t.kind) (n := t.num) (s := t.text) (L := .slice a t.list.length c)
  generalize hW : w.alloc (.cells #[.int .i64 t.kind, .int .i64 t.num, .string t.text, .slice a t.list.length c] 26) = W1 at hbx
  have hA1 : At W1 (· < W1.heap.size) t a c := by rw [← hW]; exact at_alloc hA _
  have hb1 : Below w.heap.size w W1 := by rw [← hW]; exact (Below.refl _ _).alloc (Nat.le_refl _) _
  have hg : w.heap.size < W1.heap.size := hbx.lt
  have HBX := Lib.hid hbx
  have HB1 := Lib.hid hb1
  have HWW := Lib.hid hW
  have HA := Lib.hid hA1
  have HLONG : Hid (Calls Try.prog 16 #[val t a c] W1 (RetQ W1 (Long t))) := long16 t a c W1 hA1 hN
  have HKN : Hid (∀ W, Calls Try.prog 12 #[] W (Ret1 W (.bool true))) := fun W => known12 W
  have HI : Hid (∀ W, Below W1.heap.size W1 W → Calls Try.prog 26 #[val t a c] W (RetK W t (fun u => .int .i64 u.num) r1)) := fun W hb => ints_k t a c W r1 (at_later hA1 hb) hr1
  have HT : Hid (∀ W, Below W1.heap.size W1 W → Calls Try.prog 27 #[val t a c] W (RetK W t (fun u => .string u.text) r2)) := fun W hb => texts_k t a c W r2 (at_later hA1 hb) hr2
  have HK1k : Hid (∀ W, Below W1.heap.size W1 W → Calls Try.prog 28 #[val t a c, .int .i64 1] W (Ret1 W (.int .i64 r1))) := fun W hb => kinds28 t a c W 1 r1 (at_later hA1 hb) hN hr1
  have HK2k : Hid (∀ W, Below W1.heap.size W1 W → Calls Try.prog 28 #[val t a c, .int .i64 2] W (Ret1 W (.int .i64 r2))) := fun W hb => kinds28 t a c W 2 r2 (at_later hA1 hb) hN hr2
  have HLL := Lib.hid ((at_eq w (· < w.heap.size) t a c).1 hA)
  unfold val at HLONG HI HT HK1k HK2k ⊢
  clear hA hA1 hbx hb1 hW hbulk hr1 hr2
  go_enter Try.func7, Try.ntmps7
  go_wp2_with fail
  rw [HWW.out]
  refine HLONG.out.mono ?_
  rintro e w2 ⟨br, rfl, -, hb2⟩
  have HB2 := Lib.hid hb2
  have hk2 := HBX.out.below hb2 hg
  have HK2 := Lib.hid hk2
  have hs2 := hb2.size
  have hc0 := hk2.c0
  have hc1 := hk2.c1
  have hc2 := hk2.c2
  have hc3 := hk2.c3
  have hg2 : w.heap.size < w2.heap.size := by omega
  clear hb2 hk2
  cases br with
  | true =>
    go_wp2_with fail
    refine (HKN.out _).mono ?_
    rintro e w3 ⟨rfl, hb3⟩
    have HB3 : Hid (Below w.heap.size w w3) := HB1.out.trans ((HB2.out.trans (hb3.mono hs2)).mono (by omega))
    clear hb3
    go_wp2_with fail
    go_ret
    exact ⟨rfl, HB3.out⟩
  | false =>
    go_wp2_with fail
    refine (HI.out w2 HB2.out).mono ?_
    rintro e w3 ⟨A3, n3, c3, rfl, hn3, hx3, hb3⟩
    have HX3 := Lib.hid hx3
    have HN3 := Lib.hid hn3
    clear hx3 hn3
    have HB3 : Hid (Below W1.heap.size W1 w3) := HB2.out.trans (hb3.mono HB2.out.size)
    have hs3 := hb3.size
    have hk3 := HK2.out.below hb3 (by omega)
    have HK3 := Lib.hid hk3
    have hc03 := hk3.c0
    have hc13 := hk3.c1
    have hc23 := hk3.c2
    have hc33 := hk3.c3
    have hgy3 : w.heap.size < w3.heap.size := by omega
    clear hb3 hk3
    go_wp2_with fail
    refine (HT.out w3 HB3.out).mono ?_
    rintro e w4 ⟨A4, n4, c4, rfl, hn4, hx4, hb4⟩
    have HX4 := Lib.hid hx4
    have HN4 := Lib.hid hn4
    have HX34 : Hid (n3 = 0 ∨ ∃ g, A3 = some ⟨g, 0, none⟩ ∧ g < w4.heap.size ∧ ∀ i (h : i < t.list.length), i < n3 → w4.cell? ⟨g, i, none⟩ = some (.int .i64 t.list[i].num)) := by
      rcases HX3.out with h | ⟨g, e, h1, h2⟩
      · exact .inl h
      · exact .inr ⟨g, e, by have := hb4.size; omega, fun i hi hn => (hb4.cell (p := ⟨g, i, none⟩) h1).trans (h2 i hi hn)⟩
    clear hx4 hn4
    have HB4 : Hid (Below W1.heap.size W1 w4) := HB3.out.trans (hb4.mono HB3.out.size)
    have hs4 := hb4.size
    have hk4 := HK3.out.below hb4 (by omega)
    have HK4 := Lib.hid hk4
    have hc04 := hk4.c0
    have hc14 := hk4.c1
    have hc24 := hk4.c2
    have hc34 := hk4.c3
    have hgy4 : w.heap.size < w4.heap.size := by omega
    clear hb4 hk4
    go_wp2_with fail
    refine (HK1k.out w4 HB4.out).mono ?_
    rintro e w5 ⟨rfl, hb5⟩
    have HBB5 := Lib.hid hb5
    have HB5 : Hid (Below W1.heap.size W1 w5) := HB4.out.trans (hb5.mono HB4.out.size)
    have hs5 := hb5.size
    have hk5 := HK4.out.below hb5 (by omega)
    have HK5 := Lib.hid hk5
    have hc05 := hk5.c0
    have hc15 := hk5.c1
    have hc25 := hk5.c2
    have hc35 := hk5.c3
    have hgy5 : w.heap.size < w5.heap.size := by omega
    clear hb5 hk5
    go_wp2_with fail
    refine (HK2k.out w5 HB5.out).mono ?_
    rintro e w6 ⟨rfl, hb6⟩
    have hb46 : Below w4.heap.size w4 w6 := HBB5.out.trans (hb6.mono (by omega))
    have HX36 : Hid (n3 = 0 ∨ ∃ g, A3 = some ⟨g, 0, none⟩ ∧ ∀ i (h : i < t.list.length), i < n3 → w6.cell? ⟨g, i, none⟩ = some (.int .i64 t.list[i].num)) := by
      rcases HX34.out with h | ⟨g, e, h1, h2⟩
      · exact .inl h
      · exact .inr ⟨g, e, fun i hi hn => (hb46.cell (p := ⟨g, i, none⟩) h1).trans (h2 i hi hn)⟩
    have HX46 : Hid (n4 = 0 ∨ ∃ g, A4 = some ⟨g, 0, none⟩ ∧ ∀ i (h : i < t.list.length), i < n4 → w6.cell? ⟨g, i, none⟩ = some (.string t.list[i].text)) := by
      rcases HX4.out with h | ⟨g, e, h1, h2⟩
      · exact .inl h
      · exact .inr ⟨g, e, fun i hi hn => (hb46.cell (p := ⟨g, i, none⟩) h1).trans (h2 i hi hn)⟩
    clear hb46
    have HB6 : Hid (Below W1.heap.size W1 w6) := HB5.out.trans (hb6.mono HB5.out.size)
    have hs6 := hb6.size
    have hk6 := HK5.out.below hb6 (by omega)
    have HK6 := Lib.hid hk6
    have hc06 := hk6.c0
    have hc16 := hk6.c1
    have hc26 := hk6.c2
    have hc36 := hk6.c3
    have hgy6 : w.heap.size < w6.heap.size := by omega
    clear hb6 hk6
    have HBW : Hid (Below w.heap.size w w6) := HB1.out.trans (HB6.out.mono HB1.out.size)
    have hn3l : n3 ≤ t.list.length := by rcases HN3.out with h | h <;> omega
    have hn4l : n4 ≤ t.list.length := by rcases HN4.out with h | h <;> omega
    have hcase : (r1 = 0 ∧ n3 = t.list.length ∨ ((r1 != 0) = true ∧ (r1 == 0) = false) ∧ n3 = 0) ∧ (r2 = 0 ∧ n4 = t.list.length ∨ ((r2 != 0) = true ∧ (r2 == 0) = false) ∧ n4 = 0) := by
      refine ⟨?_, ?_⟩
      · rcases HN3.out with h | h
        · exact .inl h
        · exact .inr ⟨⟨by simpa using h.1, by simpa using h.1⟩, h.2⟩
      · rcases HN4.out with h | h
        · exact .inl h
        · exact .inr ⟨⟨by simpa using h.1, by simpa using h.1⟩, h.2⟩
    obtain ⟨hca, hcb⟩ := hcase
    have hgb : ∀ b, b < w.heap.size → ∀ o, w6.cell? ⟨b, o, none⟩ = w.cell? ⟨b, o, none⟩ := fun b hb o => HBW.out.cell (p := ⟨b, o, none⟩) hb
    have HGB := Lib.hid hgb
    clear hgb
    rcases hca with ⟨rfl, hz3⟩ | ⟨⟨hz3, hz3'⟩, rfl⟩ <;> rcases hcb with ⟨rfl, hz4⟩ | ⟨⟨hz4, hz4'⟩, rfl⟩
    · subst hz3
      have hz4x := hz4
      subst hz4
      go_wp2_with fail
      go_loopw [7] (fun i wr => ∃ q k, q ≤ t.list.length ∧ i = .int .i64 (q : Nat) ∧ wr = w6.drewN k) (fun i _ => t.list.length - (intOf i).toNat)
      case atStart => exact ⟨0, 0, Nat.zero_le _, rfl, rfl⟩
      case round =>
        obtain ⟨q, k, hq, rfl, hwr⟩ := hrel
        have cellr : ∀ p, wr.cell? p = w6.cell? p := fun p => by subst hwr; rfl
        have HW := Lib.hid hwr
        have y3 := (cellr _).trans hc36
        clear hwr
        by_cases hlt : q < t.list.length
        · skip
          · (have hq' : q < t.list.length := by omega
             rcases HX36.out with h0 | ⟨g, rfl, hrow⟩
             · omega
             rcases HLL.out.2.2 with h0 | ⟨b, off, rfl, hb, hAL⟩
             · rw [h0] at hq'; simp at hq'
             obtain ⟨x, cx, e0, e1, e2, e3, hAt⟩ := AtL.get t.list b off hAL q hq'
             have f1 := (cellr _).trans ((HGB.out b hb _).trans e1)
             have f2 := (cellr _).trans (hrow q hq' (by omega))
             clear hAL e0 e1 e2 e3 hAt hrow cellr
             go_wp2_with fail
             go_region_held3 (fun w' => w'.cell? ⟨g, q, none⟩ = some (.int .i64 t.list[q].num) ∧ w'.cell? ⟨w.heap.size, 3, none⟩ = some (.slice (some ⟨b, off, none⟩) t.list.length c) ∧ w'.cell? ⟨b, off + q * 4 + 1, none⟩ = some (.int .i64 t.list[q].num)) (exact ⟨f2, y3, f1⟩) (fail)
             all_goals go_wp2_with fail
             all_goals go_roundw
             all_goals first
               | (exact ⟨q + 1, k + 1, by omega, by go_num, by rw [HW.out]; rfl⟩)
               | (simp [intOf]; omega))
        · have HQ : Hid (q = t.list.length) := by unfold Hid; omega
          clear cellr
          go_wp2_with fail
          go_loopw [8] (fun i wv => ∃ q k, q ≤ t.list.length ∧ i = .int .i64 (q : Nat) ∧ wv = w6.drewN k) (fun i _ => t.list.length - (intOf i).toNat)
          case atStart => exact ⟨0, k, Nat.zero_le _, rfl, HW.out⟩
          case round =>
            obtain ⟨q, k, hq, rfl, hwr⟩ := hrel
            have cellr : ∀ p, wr.cell? p = w6.cell? p := fun p => by subst hwr; rfl
            have HW := Lib.hid hwr
            have y3 := (cellr _).trans hc36
            clear hwr
            by_cases hlt : q < t.list.length
            · skip
              · (have hq' : q < t.list.length := by omega
                 rcases HX46.out with h0 | ⟨g, rfl, hrow⟩
                 · omega
                 rcases HLL.out.2.2 with h0 | ⟨b, off, rfl, hb, hAL⟩
                 · rw [h0] at hq'; simp at hq'
                 obtain ⟨x, cx, e0, e1, e2, e3, hAt⟩ := AtL.get t.list b off hAL q hq'
                 have f1 := (cellr _).trans ((HGB.out b hb _).trans e2)
                 have f2 := (cellr _).trans (hrow q hq' (by omega))
                 clear hAL e0 e1 e2 e3 hAt hrow cellr
                 go_wp2_with fail
                 go_region_held3 (fun w' => w'.cell? ⟨g, q, none⟩ = some (.string t.list[q].text) ∧ w'.cell? ⟨w.heap.size, 3, none⟩ = some (.slice (some ⟨b, off, none⟩) t.list.length c) ∧ w'.cell? ⟨b, off + q * 4 + 2, none⟩ = some (.string t.list[q].text)) (exact ⟨f2, y3, f1⟩) (fail)
                 all_goals go_wp2_with fail
                 all_goals go_roundw
                 all_goals first
                   | (exact ⟨q + 1, k + 1, by omega, by go_num, by rw [HW.out]; rfl⟩)
                   | (simp [intOf]; omega))
            · have HQ : Hid (q = t.list.length) := by unfold Hid; omega
              clear cellr
              go_wp2_with fail
              refine (HKN.out _).mono ?_
              rintro e w12 ⟨rfl, hb12⟩
              have HB12 : Hid (Below w.heap.size w w12) := by
                have h1 : Below w.heap.size w wr := by rw [HW.out]; exact below_drewN HBW.out _
                exact h1.trans (hb12.mono h1.size)
              clear hb12
              go_wp2_with fail
              go_ret
              exact ⟨rfl, HB12.out⟩
    · subst hz3
      go_wp2_with fail
      go_loopw [7] (fun i wr => ∃ q k, q ≤ t.list.length ∧ i = .int .i64 (q : Nat) ∧ wr = w6.drewN k) (fun i _ => t.list.length - (intOf i).toNat)
      case atStart => exact ⟨0, 0, Nat.zero_le _, rfl, rfl⟩
      case round =>
        obtain ⟨q, k, hq, rfl, hwr⟩ := hrel
        have cellr : ∀ p, wr.cell? p = w6.cell? p := fun p => by subst hwr; rfl
        have HW := Lib.hid hwr
        have y3 := (cellr _).trans hc36
        clear hwr
        by_cases hlt : q < t.list.length
        · skip
          · (have hq' : q < t.list.length := by omega
             rcases HX36.out with h0 | ⟨g, rfl, hrow⟩
             · omega
             rcases HLL.out.2.2 with h0 | ⟨b, off, rfl, hb, hAL⟩
             · rw [h0] at hq'; simp at hq'
             obtain ⟨x, cx, e0, e1, e2, e3, hAt⟩ := AtL.get t.list b off hAL q hq'
             have f1 := (cellr _).trans ((HGB.out b hb _).trans e1)
             have f2 := (cellr _).trans (hrow q hq' (by omega))
             clear hAL e0 e1 e2 e3 hAt hrow cellr
             go_wp2_with fail
             go_region_held3 (fun w' => w'.cell? ⟨g, q, none⟩ = some (.int .i64 t.list[q].num) ∧ w'.cell? ⟨w.heap.size, 3, none⟩ = some (.slice (some ⟨b, off, none⟩) t.list.length c) ∧ w'.cell? ⟨b, off + q * 4 + 1, none⟩ = some (.int .i64 t.list[q].num)) (exact ⟨f2, y3, f1⟩) (fail)
             all_goals go_wp2_with fail
             all_goals go_roundw
             all_goals first
               | (exact ⟨q + 1, k + 1, by omega, by go_num, by rw [HW.out]; rfl⟩)
               | (simp [intOf]; omega))
        · have HQ : Hid (q = t.list.length) := by unfold Hid; omega
          clear cellr
          go_wp2_with fail
          go_loopw [8] (fun i wv => ∃ q k, q ≤ 0 ∧ i = .int .i64 (q : Nat) ∧ wv = w6.drewN k) (fun i _ => 0 - (intOf i).toNat)
          case atStart => exact ⟨0, k, Nat.zero_le _, rfl, HW.out⟩
          case round =>
            obtain ⟨q, k, hq, rfl, hwr⟩ := hrel
            have cellr : ∀ p, wr.cell? p = w6.cell? p := fun p => by subst hwr; rfl
            have HW := Lib.hid hwr
            have y3 := (cellr _).trans hc36
            clear hwr
            by_cases hlt : q < 0
            · omega
            · have HQ : Hid (q = 0) := by unfold Hid; omega
              clear cellr
              go_wp2_with fail
              refine (HKN.out _).mono ?_
              rintro e w12 ⟨rfl, hb12⟩
              have HB12 : Hid (Below w.heap.size w w12) := by
                have h1 : Below w.heap.size w wr := by rw [HW.out]; exact below_drewN HBW.out _
                exact h1.trans (hb12.mono h1.size)
              clear hb12
              go_wp2_with fail
              go_ret
              exact ⟨rfl, HB12.out⟩
    · subst hz4
      go_wp2_with fail
      go_loopw [7] (fun i wr => ∃ q k, q ≤ 0 ∧ i = .int .i64 (q : Nat) ∧ wr = w6.drewN k) (fun i _ => 0 - (intOf i).toNat)
      case atStart => exact ⟨0, 0, Nat.zero_le _, rfl, rfl⟩
      case round =>
        obtain ⟨q, k, hq, rfl, hwr⟩ := hrel
        have cellr : ∀ p, wr.cell? p = w6.cell? p := fun p => by subst hwr; rfl
        have HW := Lib.hid hwr
        have y3 := (cellr _).trans hc36
        clear hwr
        by_cases hlt : q < 0
        · omega
        · have HQ : Hid (q = 0) := by unfold Hid; omega
          clear cellr
          go_wp2_with fail
          go_loopw [8] (fun i wv => ∃ q k, q ≤ t.list.length ∧ i = .int .i64 (q : Nat) ∧ wv = w6.drewN k) (fun i _ => t.list.length - (intOf i).toNat)
          case atStart => exact ⟨0, k, Nat.zero_le _, rfl, HW.out⟩
          case round =>
            obtain ⟨q, k, hq, rfl, hwr⟩ := hrel
            have cellr : ∀ p, wr.cell? p = w6.cell? p := fun p => by subst hwr; rfl
            have HW := Lib.hid hwr
            have y3 := (cellr _).trans hc36
            clear hwr
            by_cases hlt : q < t.list.length
            · skip
              · (have hq' : q < t.list.length := by omega
                 rcases HX46.out with h0 | ⟨g, rfl, hrow⟩
                 · omega
                 rcases HLL.out.2.2 with h0 | ⟨b, off, rfl, hb, hAL⟩
                 · rw [h0] at hq'; simp at hq'
                 obtain ⟨x, cx, e0, e1, e2, e3, hAt⟩ := AtL.get t.list b off hAL q hq'
                 have f1 := (cellr _).trans ((HGB.out b hb _).trans e2)
                 have f2 := (cellr _).trans (hrow q hq' (by omega))
                 clear hAL e0 e1 e2 e3 hAt hrow cellr
                 go_wp2_with fail
                 go_region_held3 (fun w' => w'.cell? ⟨g, q, none⟩ = some (.string t.list[q].text) ∧ w'.cell? ⟨w.heap.size, 3, none⟩ = some (.slice (some ⟨b, off, none⟩) t.list.length c) ∧ w'.cell? ⟨b, off + q * 4 + 2, none⟩ = some (.string t.list[q].text)) (exact ⟨f2, y3, f1⟩) (fail)
                 all_goals go_wp2_with fail
                 all_goals go_roundw
                 all_goals first
                   | (exact ⟨q + 1, k + 1, by omega, by go_num, by rw [HW.out]; rfl⟩)
                   | (simp [intOf]; omega))
            · have HQ : Hid (q = t.list.length) := by unfold Hid; omega
              clear cellr
              go_wp2_with fail
              refine (HKN.out _).mono ?_
              rintro e w12 ⟨rfl, hb12⟩
              have HB12 : Hid (Below w.heap.size w w12) := by
                have h1 : Below w.heap.size w wr := by rw [HW.out]; exact below_drewN HBW.out _
                exact h1.trans (hb12.mono h1.size)
              clear hb12
              go_wp2_with fail
              go_ret
              exact ⟨rfl, HB12.out⟩
    · go_wp2_with fail
      go_loopw [7] (fun i wr => ∃ q k, q ≤ 0 ∧ i = .int .i64 (q : Nat) ∧ wr = w6.drewN k) (fun i _ => 0 - (intOf i).toNat)
      case atStart => exact ⟨0, 0, Nat.zero_le _, rfl, rfl⟩
      case round =>
        obtain ⟨q, k, hq, rfl, hwr⟩ := hrel
        have cellr : ∀ p, wr.cell? p = w6.cell? p := fun p => by subst hwr; rfl
        have HW := Lib.hid hwr
        have y3 := (cellr _).trans hc36
        clear hwr
        by_cases hlt : q < 0
        · omega
        · have HQ : Hid (q = 0) := by unfold Hid; omega
          clear cellr
          go_wp2_with fail
          go_loopw [8] (fun i wv => ∃ q k, q ≤ 0 ∧ i = .int .i64 (q : Nat) ∧ wv = w6.drewN k) (fun i _ => 0 - (intOf i).toNat)
          case atStart => exact ⟨0, k, Nat.zero_le _, rfl, HW.out⟩
          case round =>
            obtain ⟨q, k, hq, rfl, hwr⟩ := hrel
            have cellr : ∀ p, wr.cell? p = w6.cell? p := fun p => by subst hwr; rfl
            have HW := Lib.hid hwr
            have y3 := (cellr _).trans hc36
            clear hwr
            by_cases hlt : q < 0
            · omega
            · have HQ : Hid (q = 0) := by unfold Hid; omega
              clear cellr
              go_wp2_with fail
              refine (HKN.out _).mono ?_
              rintro e w12 ⟨rfl, hb12⟩
              have HB12 : Hid (Below w.heap.size w w12) := by
                have h1 : Below w.heap.size w wr := by rw [HW.out]; exact below_drewN HBW.out _
                exact h1.trans (hb12.mono h1.size)
              clear hb12
              go_wp2_with fail
              go_ret
              exact ⟨rfl, HB12.out⟩
end Go.Proofs.Ytkmikpmbnfcbpaa
