/- The contract of check. -/
import Derived.Test.YtkmikpmbnfcbpaaGd
namespace Go.Proofs.Ytkmikpmbnfcbpaa
open Go.RowKit
set_option linter.unusedVariables false
open Tree

/-- A value that may be, so deep at most. -/
def Fits (t : Tree) (d : Int) : Prop := Right t ∧ (t.depth : Int) ≤ d ∧ t.count ≤ 20000
def RetC (w : World) (p : Prop) (n : Nat) (e : Ending) (w' : World) : Prop := ∃ r : Int, e = .returned (.int .i64 r) ∧ (p → r = n) ∧ (¬ p → r = -1) ∧ Below w.heap.size w w'
theorem retC_no {w w' : World} {p : Prop} {n : Nat} (h : ¬ p) (hb : Below w.heap.size w w') : RetC w p n (.returned (.int .i64 (-1))) w' := ⟨-1, rfl, fun hp => absurd hp h, fun _ => rfl, hb⟩
theorem retC_yes {w w' : World} {p : Prop} {n : Nat} (h : p) (hb : Below w.heap.size w w') : RetC w p n (.returned (.int .i64 n)) w' := ⟨n, rfl, fun _ => rfl, fun hn => absurd h hn, hb⟩

theorem fields_cases {t : Tree} {l : List Tree} {k0 n0 : Int} {s0 : ByteArray} {n : Nat} (hfe : fields t ↔ ((k0 = 1 ∨ k0 = 2 ∨ k0 = 3) ∧ (k0 ≠ 1 → n0 = 0) ∧ (k0 ≠ 2 → s0 = ⟨#[]⟩) ∧ (k0 ≠ 3 → l = []))) (hnl : l = [] ↔ n = 0) :
    (fields t ∧ ((k0 = 1 ∧ s0 = ⟨#[]⟩ ∧ ((n : Int) == 0) = true) ∨ (k0 = 2 ∧ n0 = 0 ∧ ((n : Int) == 0) = true) ∨ (k0 = 3 ∧ n0 = 0 ∧ s0 = ⟨#[]⟩))) ∨
    (¬ fields t ∧ (((k0 == 1) = false ∧ (k0 == 2) = false ∧ (k0 == 3) = false) ∨ (k0 = 1 ∧ (s0.toList == []) = false) ∨ (k0 = 1 ∧ s0 = ⟨#[]⟩ ∧ ((n : Int) == 0) = false) ∨ (k0 = 2 ∧ (n0 == 0) = false) ∨ (k0 = 2 ∧ n0 = 0 ∧ ((n : Int) == 0) = false) ∨ (k0 = 3 ∧ (n0 == 0) = false) ∨ (k0 = 3 ∧ n0 = 0 ∧ (s0.toList == []) = false))) := by
  by_cases hf : fields t
  · left
    refine ⟨hf, ?_⟩
    obtain ⟨h1, h2, h3, h4⟩ := hfe.1 hf
    rcases h1 with h1 | h1 | h1
    · have := hnl.1 (h4 (by omega)); exact .inl ⟨h1, h3 (by omega), by simp [this]⟩
    · have := hnl.1 (h4 (by omega)); exact .inr (.inl ⟨h1, h2 (by omega), by simp [this]⟩)
    · exact .inr (.inr ⟨h1, h2 (by omega), h3 (by omega)⟩)
  · right
    refine ⟨hf, ?_⟩
    have hx : ¬ ((k0 = 1 ∨ k0 = 2 ∨ k0 = 3) ∧ (k0 ≠ 1 → n0 = 0) ∧ (k0 ≠ 2 → s0 = ⟨#[]⟩) ∧ (k0 ≠ 3 → l = [])) := fun h => hf (hfe.2 h)
    by_cases e3 : k0 = 1 ∨ k0 = 2 ∨ k0 = 3
    · by_cases es : s0 = ⟨#[]⟩ <;> by_cases en : n0 = 0 <;> by_cases el : n = 0
      all_goals rcases e3 with e3 | e3 | e3
      all_goals first
        | exact .inr (.inl ⟨e3, bytes_some es⟩)
        | exact .inr (.inr (.inl ⟨e3, es, by simpa using el⟩))
        | exact .inr (.inr (.inr (.inl ⟨e3, by simpa using en⟩)))
        | exact .inr (.inr (.inr (.inr (.inl ⟨e3, en, by simpa using el⟩))))
        | exact .inr (.inr (.inr (.inr (.inr (.inl ⟨e3, by simpa using en⟩)))))
        | exact .inr (.inr (.inr (.inr (.inr (.inr ⟨e3, en, bytes_some es⟩)))))
        | exact (hx ⟨.inl e3, fun h => absurd e3 h, fun _ => es, fun _ => hnl.2 el⟩).elim
        | exact (hx ⟨.inr (.inl e3), fun _ => en, fun h => absurd e3 h, fun _ => hnl.2 el⟩).elim
        | exact (hx ⟨.inr (.inr e3), fun _ => en, fun _ => es, fun h => absurd e3 h⟩).elim
    · exact .inl ⟨by simp; omega, by simp; omega, by simp; omega⟩

set_option maxHeartbeats 4000000 in
theorem check_calls (N : Nat) : ∀ (t : Tree) (a : Option Addr) (c : Nat) (d : Int) (w : World), t.count ≤ N → -100 ≤ d → d ≤ 100 → At w (· < w.heap.size) t a c →
    Calls Try.prog 48 #[val t a c, .int .i64 d] w (RetC w (Fits t d) t.count) := by
  induction N with
  | zero => intro t a c d w h _ _ _; rw [count_eq] at h; omega
  | succ N ih =>
    intro t a c d w hN hd1 hd2 hA
    rw [at_eq] at hA
    rw [count_eq] at hN
    obtain ⟨hc1, hc2, hl⟩ := hA
    obtain ⟨p, hp⟩ : ∃ p, p = Fits t d := ⟨_, rfl⟩
    have hpe : Fits t d ↔ ((fields t ∧ RightL t.list) ∧ ((depthL t.list + 1 : Nat) : Int) ≤ d ∧ 1 + countL t.list ≤ 20000) := by unfold Fits; rw [right_eq, depth_eq, count_eq]
    rw [← hp] at hpe ⊢
    have hfe : fields t ↔ ((t.kind = 1 ∨ t.kind = 2 ∨ t.kind = 3) ∧ (t.kind ≠ 1 → t.num = 0) ∧ (t.kind ≠ 2 → t.text = ⟨#[]⟩) ∧ (t.kind ≠ 3 → t.list = [])) := Iff.rfl
    rw [count_eq]
    unfold val
    obtain ⟨l, hL⟩ : ∃ l, t.list = l := ⟨_, rfl⟩
    rw [hL] at hc1 hl hN hpe hfe ⊢
    obtain ⟨n, hn⟩ : ∃ n, l.length = n := ⟨_, rfl⟩
    have HN := Lib.hid hn
    rw [hn] at hc1 ⊢
    generalize t.kind = k0 at hfe ⊢
    generalize t.num = n0 at hfe ⊢
    generalize t.text = s0 at hfe ⊢
    have HCL := Lib.hid hN
    have HPE := Lib.hid hpe
    have hnl : l = [] ↔ n = 0 := by rw [← hn]; exact List.length_eq_zero_iff.symm
    have hcase := fields_cases hfe hnl
    clear hL hn hN hfe hpe hp hnl
    by_cases hdp : d ≤ 0
    · have hno : ¬ p := fun hp => by have := (HPE.out.1 hp).2.1; omega
      have HNO := Lib.hid hno
      have h4 : (k0 = 1 ∨ k0 = 2 ∨ k0 = 3) ∨ ((k0 == 1) = false ∧ (k0 == 2) = false ∧ (k0 == 3) = false) := by
        by_cases e3 : k0 = 1 ∨ k0 = 2 ∨ k0 = 3
        · exact .inl e3
        · exact .inr ⟨by simp; omega, by simp; omega, by simp; omega⟩
      clear hcase hno
      rcases h4 with (rfl | rfl | rfl) | ⟨b1, b2, b3⟩
      all_goals go_enter Try.func48, Try.ntmps48
      all_goals go_wp2_with fail
      all_goals go_ret
      all_goals exact retC_no HNO.out ((Below.refl _ _).alloc (Nat.le_refl _) _)
    · rcases hcase with ⟨hf, hcase⟩ | ⟨hf, hcase⟩
      · have HF := Lib.hid hf
        clear hf
        have hz : True := trivial
        rcases hcase with ⟨rfl, rfl, hz⟩ | ⟨rfl, rfl, hz⟩ | ⟨rfl, rfl, rfl⟩
        all_goals go_enter Try.func48, Try.ntmps48
        all_goals go_wp2_with fail
        all_goals
          generalize hW1 : World.alloc w _ = W1
          have hbox : W1.cell? ⟨w.heap.size, 3, none⟩ = some (.slice a n c) := by rw [← hW1, cell_new rfl]; rfl
          have hB1 : Below w.heap.size w W1 := by rw [← hW1]; exact (Below.refl _ _).alloc (Nat.le_refl _) _
          have hs1 : W1.heap.size = w.heap.size + 1 := by rw [← hW1]; simp
          have HB1 := Lib.hid hB1
          clear hW1 hB1
          go_loopw [6, 60] (fun u i wr => ∃ m q, q ≤ n ∧ u = .int .i64 (m : Nat) ∧ i = .int .i64 (q : Nat) ∧ m ≤ 20000 ∧ m = 1 + countL (l.take q) ∧ (∀ j (hj : j < l.length), j < q → Right l[j]) ∧ (depthL (l.take q) : Int) ≤ d - 1 ∧ Below W1.heap.size W1 wr) (fun _ i _ => n - (intOf i).toNat)
          case atStart => exact ⟨1, 0, Nat.zero_le _, rfl, rfl, by omega, by simp [countL], fun j _ hj => by omega, by simp [depthL]; omega, Below.refl _ _⟩
          case round =>
            obtain ⟨m, q, hq, rfl, rfl, hm2, hm, hR, hD, hbl⟩ := hrel
            have HMM := Lib.hid hm
            have HR := Lib.hid hR
            have HDD := Lib.hid hD
            have HBL := Lib.hid hbl
            have hsz := hbl.size
            have HBW : Hid (Below w.heap.size w wr) := HB1.out.trans (hbl.mono (by omega))
            clear hm hbl hR hD
            by_cases hlt : q < n
            · first
              | (exfalso; omega)
              | (exfalso; have hz' := hz; simp at hz'; omega)
              | (rcases hl with h0 | ⟨b, off, rfl, hb, hAL⟩
                 · rw [h0] at HN; have := HN.out; simp at this; omega
                 have hq' : q < l.length := by rw [HN.out]; exact hlt
                 obtain ⟨a', c', e0, e1, e2, e3, hAt⟩ := AtL.get l b off hAL q hq'
                 have cell : ∀ o v, w.cell? ⟨b, o, none⟩ = some v → wr.cell? ⟨b, o, none⟩ = some v := fun o v h => (HBW.out.cell (p := ⟨b, o, none⟩) hb).trans h
                 have f0 := cell _ _ e0
                 have f1 := cell _ _ e1
                 have f2 := cell _ _ e2
                 have f3 := cell _ _ e3
                 have hdI : IntKind.i64.wrap (d - 1) = d - 1 := IntWalk.i64_in _ (by omega)
                 have hct := countL_take hq'
                 have hdt := depthL_take hq'
                 have hcl2 := countL_le l (q + 1)
                 have hdl2 := depthL_le l (q + 1)
                 have HIH : Hid (∀ W, Below wr.heap.size wr W → Calls Try.prog 48 #[val l[q] a' c', .int .i64 (d - 1)] W (RetC W (Fits l[q] (d - 1)) l[q].count)) := fun W e =>
                   ih _ _ _ _ _ (by have := HCL.out; omega) (by omega) (by omega) (((hAt.below HBW.out).more HBW.out.size).below e |>.more e.size)
                 unfold val at HIH
                 obtain ⟨x, hx⟩ : ∃ x, l[q].count = x := ⟨_, rfl⟩
                 obtain ⟨dx, hdx⟩ : ∃ dx, l[q].depth = dx := ⟨_, rfl⟩
                 have hfit : Fits l[q] (d - 1) ↔ (Right l[q] ∧ (dx : Int) ≤ d - 1 ∧ x ≤ 20000) := by unfold Fits; rw [hx, hdx]
                 rw [hx] at hct HIH
                 rw [hdx] at hdt
                 have HCT := Lib.hid hct
                 have HDT := Lib.hid hdt
                 have HFIT := Lib.hid hfit
                 have HC2 := Lib.hid hcl2
                 have HD2 := Lib.hid hdl2
                 have HMEM : Hid (RightL l → Right l[q]) := fun h => rightL_mem h _ (List.getElem_mem hq')
                 clear hAL e0 e1 e2 e3 hAt cell hct hcl2 hdt hdl2 hfit hx hdx
                 go_wp2_with fail
                 refine (HIH.out _ ?_).mono ?_
                 · exact (Below.refl _ _).alloc (Nat.le_refl _) _
                 rintro e w2 ⟨r, rfl, hry, hrn, hb2⟩
                 have HB2 : Hid (Below W1.heap.size W1 w2) := (HBL.out.alloc hsz _).trans (hb2.mono (by simp; omega))
                 clear hb2
                 by_cases hfx : Fits l[q] (d - 1)
                 · have hr := hry hfx
                   have hf := HFIT.out.1 hfx
                   have HFR := Lib.hid hf
                   have hx2 := hf.2.2
                   subst hr
                   clear hry hrn hfx hf
                   by_cases hbig : 20000 < m + x
                   · have hbI : (20000 : Int) < (m : Int) + (x : Int) := by omega
                     have hno : ¬ p := fun hp => by
                       have h1 := (HPE.out.1 hp).2.2
                       have h2 := HC2.out
                       rw [HCT.out] at h2
                       have h3 := HMM.out
                       omega
                     have HNO := Lib.hid hno
                     clear hno
                     go_wp2_with fail
                     try rw [Exit.noGoto_ret]
                     go_ret
                     exact retC_no HNO.out (HB1.out.trans (HB2.out.mono (by omega)))
                   · have hbI : ¬ ((20000 : Int) < (m : Int) + (x : Int)) := by omega
                     go_wp2_with fail
                     go_roundw
                     case rel => exact ⟨m + x, q + 1, by omega, by go_num, by go_num, by omega, by rw [HCT.out, HMM.out]; omega, fun j hj hjq => by
                       rcases Nat.lt_or_ge j q with h | h
                       · exact HR.out j hj h
                       · have e : j = q := by omega
                         subst e
                         exact HFR.out.1, by
                         have h1 := HDD.out
                         have h2 := HFR.out.2.1
                         rw [HDT.out]
                         omega, HB2.out⟩
                     case measure => simp [intOf]; omega
                 · have hr := hrn hfx
                   subst hr
                   have hno : ¬ p := fun hp => by
                     have h1 := HPE.out.1 hp
                     have h2 := HC2.out
                     rw [HCT.out] at h2
                     have h3 := HD2.out
                     rw [HDT.out] at h3
                     exact hfx (HFIT.out.2 ⟨HMEM.out h1.1.2, by omega, by omega⟩)
                   have HNO := Lib.hid hno
                   have hmb : IntKind.i64.wrap ((m : Int) + -1) = (m : Int) - 1 := by rw [show (m : Int) + -1 = (m : Int) - 1 by omega]; exact IntWalk.i64_in _ (by omega)
                   clear hno hry hrn hfx
                   go_wp2_with fail
                   try rw [Exit.noGoto_ret]
                   go_ret
                   exact retC_no HNO.out (HB1.out.trans (HB2.out.mono (by omega))))
            · obtain rfl : q = n := by omega
              have hE : m = 1 + countL l := by rw [HMM.out, List.take_of_length_le (by rw [HN.out]; exact Nat.le_refl _)]
              have HE := Lib.hid hE
              have hyes : p := HPE.out.2 ⟨⟨HF.out, rightL_all fun j hj => HR.out j hj (by rw [← HN.out]; exact hj)⟩, by have := HDD.out; rw [List.take_of_length_le (by rw [HN.out]; exact Nat.le_refl _)] at this; omega, by omega⟩
              have HYES := Lib.hid hyes
              clear hyes hE
              go_wp2_with fail
              go_ret
              rw [← HE.out]
              exact retC_yes HYES.out HBW.out
      · have hno : ¬ p := fun hp => hf (HPE.out.1 hp).1.1
        have HNO := Lib.hid hno
        clear hf hno
        rcases hcase with ⟨b1, b2, b3⟩ | ⟨rfl, h⟩ | ⟨rfl, rfl, h⟩ | ⟨rfl, h⟩ | ⟨rfl, rfl, h⟩ | ⟨rfl, h⟩ | ⟨rfl, rfl, h⟩
        all_goals go_enter Try.func48, Try.ntmps48
        all_goals go_wp2_with fail
        all_goals go_ret
        all_goals exact retC_no HNO.out ((Below.refl _ _).alloc (Nat.le_refl _) _)
end Go.Proofs.Ytkmikpmbnfcbpaa
