/- The contract of the reader's item, of a list. -/
import Derived.Test.YtkmikpmbnfcbpaaHh
namespace Go.Proofs.Ytkmikpmbnfcbpaa
open Go.RowKit Go.Lib
set_option linter.unusedVariables false
open Tree

set_option maxHeartbeats 4000000 in
theorem item_lst_short (d : Nat) (w : World) (g : Nat) (b : UInt8) (bs : List UInt8) (L : Int) (hd : d ≤ 20) (h0 : ¬ (L - 1 < 0)) (h1 : L ≤ 20000) (hd0 : ¬ ((d : Int) = 0)) (hR : RdAt w g (b :: bs) L false) (hb : b.toNat = 3) (hlen : bs.length ≤ 4194304) (hn : bs.length < 4) :
    Calls Try.prog 38 #[.pointer (some ⟨g, 0, none⟩), .int .i64 d] w (RdP w g d L (b :: bs)) := by
  have HR := Lib.hid hR
  have hg := hR.lt
  obtain ⟨A, n, cap, hk, hB, hx1, hx2⟩ := hR
  have hc0 : w.cell? ⟨g, 0, none⟩ = some _ := hk.cell 0
  have hc1 : w.cell? ⟨g, 1, none⟩ = some _ := hk.cell 1
  have hc2 : w.cell? ⟨g, 2, none⟩ = some _ := hk.cell 2
  have hf0 := hk.frozen 0
  have hf1 := hk.frozen 1
  have hf2 := hk.frozen 2
  have hwL : IntKind.i64.wrap (L - 1) = L - 1 := IntWalk.i64_in _ (by omega)
  clear hk hB hx1 hx2
  have HPZ : Hid (∀ u x, ¬ Pz d L (b :: bs) u x) := fun u x => pz_no_four (.inr hb) hn
  have HHN := Lib.hid hn
  skip
  have hdz : ((d : Int) == 0) = false := beq_eq_false_iff_ne.2 hd0
  have HB3 := Lib.hid hb
  replace hb : (b.toNat : Int) = 3 := by omega
  clear hn
  go_enter Try.func38, Try.ntmps38
  go_wp2_with fail
  obtain ⟨hR1, hM1, hS1, hK1⟩ := began_at (L' := L - 1) (b := false) HR.out
  refine (num1_ok (began w g (L - 1) false) g b bs (L - 1) 3 hR1 hb).mono ?_
  rintro e w2 ⟨rfl, hR2, hM2, hS2⟩
  have HR2 := Lib.hid hR2
  have HM2 : Hid (Moved w w2 (· = g)) := hM1.trans hM2 (fun i _ h => h)
  have hk2 : Blk w2 w.heap.size 26 #[.int .i64 0, .int .i64 0, .string ⟨#[]⟩, .slice none 0 0] := (hM2.block w.heap.size (by omega) (by omega)).trans hK1
  have HK2 := Lib.hid hk2
  have hs2 : w2.heap.size = w.heap.size + 1 := by omega
  have hg2 : w.heap.size < w2.heap.size := by omega
  have hgg : g < w2.heap.size := by omega
  obtain ⟨A, n, cap, hk, hB, hx1, hx2⟩ := hR2
  have h2c2 : w2.cell? ⟨g, 2, none⟩ = some _ := hk.cell 2
  have h2fr := hk.frozen 2
  have h20 := hk2.c0
  have h21 := hk2.c1
  have h22 := hk2.c2
  have h23 := hk2.c3
  have h2f0 := hk2.frozen 0
  have h2f1 := hk2.frozen 1
  have h2f2 := hk2.frozen 2
  have h2f3 := hk2.frozen 3
  clear hR1 hM1 hS1 hK1 hM2 hS2 hk2 hk hB hx1 hx2
  go_wp2_with fail
  have HK2x : Hid (Blk (w2.alloc (.cells #[.int .i64 3, .int .i64 0, .string ⟨#[]⟩, .slice none 0 0] 26)) w.heap.size 26 #[.int .i64 0, .int .i64 0, .string ⟨#[]⟩, .slice none 0 0]) := HK2.out.alloc _
  have HX2 : Hid (Blk (w2.alloc (.cells #[.int .i64 3, .int .i64 0, .string ⟨#[]⟩, .slice none 0 0] 26)) (w.heap.size + 1) 26 #[.int .i64 3, .int .i64 0, .string ⟨#[]⟩, .slice none 0 0]) := by have := Blk.new w2 26 #[.int .i64 3, .int .i64 0, .string ⟨#[]⟩, .slice none 0 0]; rw [hs2] at this; exact this
  have HM2x : Hid (Moved w (w2.alloc (.cells #[.int .i64 3, .int .i64 0, .string ⟨#[]⟩, .slice none 0 0] 26)) (· = g)) := HM2.out.alloc _
  have HR2x : Hid (RdAt (w2.alloc (.cells #[.int .i64 3, .int .i64 0, .string ⟨#[]⟩, .slice none 0 0] 26)) g bs (L - 1) false) := HR2.out.alloc _
  refine (num_bad _ g 4 bs (L - 1) false HR2x.out (.inr HHN.out) (by omega)).mono ?_
  rintro e w3 ⟨rfl, hR3, hM3, hS3⟩
  have HR3 := Lib.hid hR3
  have HM3 : Hid (Moved w w3 (· = g)) := HM2x.out.trans hM3 (fun i _ h => h)
  have hk3 : Blk w3 w.heap.size 26 #[.int .i64 0, .int .i64 0, .string ⟨#[]⟩, .slice none 0 0] := (hM3.block w.heap.size (by rw [size_alloc]; omega) (by omega)).trans HK2x.out
  have hx3 : Blk w3 (w.heap.size + 1) 26 #[.int .i64 3, .int .i64 0, .string ⟨#[]⟩, .slice none 0 0] := (hM3.block (w.heap.size + 1) (by rw [size_alloc]; omega) (by omega)).trans HX2.out
  have HK3 := Lib.hid hk3
  have HX3 := Lib.hid hx3
  have hs3 : w3.heap.size = w.heap.size + 2 := by rw [hS3, size_alloc]; omega
  obtain ⟨A, n, cap, hk, hB, hx1, hx2⟩ := hR3
  have h3c2 : w3.cell? ⟨g, 2, none⟩ = some _ := hk.cell 2
  have h30 := hk3.c0
  have h31 := hk3.c1
  have h32 := hk3.c2
  have h33 := hk3.c3
  have h3f0 := hk3.frozen 0
  have h3f1 := hk3.frozen 1
  have h3f2 := hk3.frozen 2
  have h3f3 := hk3.frozen 3
  have h3x0 := hx3.c0
  have h3x1 := hx3.c1
  have h3x2 := hx3.c2
  have h3x3 := hx3.c3
  have h3g1 := hx3.frozen 1
  have h3g2 := hx3.frozen 2
  clear hM3 hS3 hk3 hx3 hk hB hx1 hx2
  skip
  go_wp2_with fail
  refine wp_loop_rounds 1 ?_
  rw [rounds_succ]
  go_wp2_with fail
  exact bodyPost_ret (res_cell rfl (Blk.put4 HK3.out) rfl) rfl ⟨.mk 3 0 ⟨#[]⟩ [], none, 0, rfl, at_leaf _ _ _ _ _, HM3.out.put4_, .inr ⟨bs, L - 1, HR3.out.put4_ hg, HPZ.out⟩⟩

set_option maxHeartbeats 4000000 in
theorem item_lst_ok (d : Nat) (w : World) (g : Nat) (b : UInt8) (bs : List UInt8) (L : Int) (hd : d ≤ 20) (h0 : ¬ (L - 1 < 0)) (h1 : L ≤ 20000) (hd0 : ¬ ((d : Int) = 0)) (hR : RdAt w g (b :: bs) L false) (hb : b.toNat = 3) (hlen : bs.length ≤ 4194304) (hn : 4 ≤ bs.length)
    (ih : ∀ (w : World) (bs : List UInt8) (L : Int), bs.length ≤ 4194304 → 0 ≤ L → L ≤ 20000 → RdAt w g bs L false → Calls Try.prog 38 #[.pointer (some ⟨g, 0, none⟩), .int .i64 ((d : Int) - 1)] w (RdP w g ((d : Int) - 1) L bs)) :
    Calls Try.prog 38 #[.pointer (some ⟨g, 0, none⟩), .int .i64 d] w (RdP w g d L (b :: bs)) := by
  have HR := Lib.hid hR
  have hg := hR.lt
  obtain ⟨A, n, cap, hk, hB, hx1, hx2⟩ := hR
  have hc0 : w.cell? ⟨g, 0, none⟩ = some _ := hk.cell 0
  have hc1 : w.cell? ⟨g, 1, none⟩ = some _ := hk.cell 1
  have hc2 : w.cell? ⟨g, 2, none⟩ = some _ := hk.cell 2
  have hf0 := hk.frozen 0
  have hf1 := hk.frozen 1
  have hf2 := hk.frozen 2
  have hwL : IntKind.i64.wrap (L - 1) = L - 1 := IntWalk.i64_in _ (by omega)
  clear hk hB hx1 hx2
  have HPZ : Hid (∀ u x, Pz d L (b :: bs) u x → PzL ((d : Int) - 1) (L - 1) (bs.drop 4) u.list x ∧ u.list.length = ofBe (bs.take 4)) := fun u x h => pz_lst hb (by omega) h
  have HHN := Lib.hid hn
  have hXl : ofBe (bs.take 4) < 4294967296 := by
    have h := ofBe_lt (bs.take 4)
    have hl : (bs.take 4).length = 4 := by rw [List.length_take]; omega
    rw [hl] at h
    exact h
  have HPI : Hid (∀ (l : List Tree) (r : List UInt8), l.length = ofBe (bs.take 4) → PzL ((d : Int) - 1) (L - 1) (bs.drop 4) l r → Pz d L (b :: bs) (.mk 3 0 ⟨#[]⟩ l) r) := fun l r h1 h2 => pz_list hb hn h1 h2
  have HD4 : Hid ((bs.drop 4).length ≤ 4194304) := by unfold Hid; rw [List.length_drop]; omega
  have HST : Hid (PzL ((d : Int) - 1) (L - 1) (bs.drop 4) [] (bs.drop 4)) := pzL_nil _ (by omega) (by omega)
  obtain ⟨X, hX⟩ : ∃ X, ofBe (bs.take 4) = X := ⟨_, rfl⟩
  rw [hX] at hXl HPZ HPI
  have HXX := Lib.hid hX
  have HIH := Lib.hid ih
  have hwd : IntKind.i64.wrap ((d : Int) - 1) = (d : Int) - 1 := IntWalk.i64_in _ (by omega)
  obtain ⟨i0, hi0, hz0, hz1, hz2⟩ := info_parts item_info
  clear hX ih
  have hdz : ((d : Int) == 0) = false := beq_eq_false_iff_ne.2 hd0
  have HB3 := Lib.hid hb
  replace hb : (b.toNat : Int) = 3 := by omega
  clear hn
  go_enter Try.func38, Try.ntmps38
  go_wp2_with fail
  obtain ⟨hR1, hM1, hS1, hK1⟩ := began_at (L' := L - 1) (b := false) HR.out
  refine (num1_ok (began w g (L - 1) false) g b bs (L - 1) 3 hR1 hb).mono ?_
  rintro e w2 ⟨rfl, hR2, hM2, hS2⟩
  have HR2 := Lib.hid hR2
  have HM2 : Hid (Moved w w2 (· = g)) := hM1.trans hM2 (fun i _ h => h)
  have hk2 : Blk w2 w.heap.size 26 #[.int .i64 0, .int .i64 0, .string ⟨#[]⟩, .slice none 0 0] := (hM2.block w.heap.size (by omega) (by omega)).trans hK1
  have HK2 := Lib.hid hk2
  have hs2 : w2.heap.size = w.heap.size + 1 := by omega
  have hg2 : w.heap.size < w2.heap.size := by omega
  have hgg : g < w2.heap.size := by omega
  obtain ⟨A, n, cap, hk, hB, hx1, hx2⟩ := hR2
  have h2c2 : w2.cell? ⟨g, 2, none⟩ = some _ := hk.cell 2
  have h2fr := hk.frozen 2
  have h20 := hk2.c0
  have h21 := hk2.c1
  have h22 := hk2.c2
  have h23 := hk2.c3
  have h2f0 := hk2.frozen 0
  have h2f1 := hk2.frozen 1
  have h2f2 := hk2.frozen 2
  have h2f3 := hk2.frozen 3
  clear hR1 hM1 hS1 hK1 hM2 hS2 hk2 hk hB hx1 hx2
  go_wp2_with fail
  have HK2x : Hid (Blk (w2.alloc (.cells #[.int .i64 3, .int .i64 0, .string ⟨#[]⟩, .slice none 0 0] 26)) w.heap.size 26 #[.int .i64 0, .int .i64 0, .string ⟨#[]⟩, .slice none 0 0]) := HK2.out.alloc _
  have HX2 : Hid (Blk (w2.alloc (.cells #[.int .i64 3, .int .i64 0, .string ⟨#[]⟩, .slice none 0 0] 26)) (w.heap.size + 1) 26 #[.int .i64 3, .int .i64 0, .string ⟨#[]⟩, .slice none 0 0]) := by have := Blk.new w2 26 #[.int .i64 3, .int .i64 0, .string ⟨#[]⟩, .slice none 0 0]; rw [hs2] at this; exact this
  have HM2x : Hid (Moved w (w2.alloc (.cells #[.int .i64 3, .int .i64 0, .string ⟨#[]⟩, .slice none 0 0] 26)) (· = g)) := HM2.out.alloc _
  have HR2x : Hid (RdAt (w2.alloc (.cells #[.int .i64 3, .int .i64 0, .string ⟨#[]⟩, .slice none 0 0] 26)) g bs (L - 1) false) := HR2.out.alloc _
  refine (num_ok _ g 4 bs (L - 1) HR2x.out HHN.out (by omega)).mono ?_
  rintro e w3 ⟨rfl, hR3, hM3, hS3⟩
  have HR3 := Lib.hid hR3
  have HM3 : Hid (Moved w w3 (· = g)) := HM2x.out.trans hM3 (fun i _ h => h)
  have hk3 : Blk w3 w.heap.size 26 #[.int .i64 0, .int .i64 0, .string ⟨#[]⟩, .slice none 0 0] := (hM3.block w.heap.size (by rw [size_alloc]; omega) (by omega)).trans HK2x.out
  have hx3 : Blk w3 (w.heap.size + 1) 26 #[.int .i64 3, .int .i64 0, .string ⟨#[]⟩, .slice none 0 0] := (hM3.block (w.heap.size + 1) (by rw [size_alloc]; omega) (by omega)).trans HX2.out
  have HK3 := Lib.hid hk3
  have HX3 := Lib.hid hx3
  have hs3 : w3.heap.size = w.heap.size + 2 := by rw [hS3, size_alloc]; omega
  obtain ⟨A, n, cap, hk, hB, hx1, hx2⟩ := hR3
  have h3c2 : w3.cell? ⟨g, 2, none⟩ = some _ := hk.cell 2
  have h30 := hk3.c0
  have h31 := hk3.c1
  have h32 := hk3.c2
  have h33 := hk3.c3
  have h3f0 := hk3.frozen 0
  have h3f1 := hk3.frozen 1
  have h3f2 := hk3.frozen 2
  have h3f3 := hk3.frozen 3
  have h3x0 := hx3.c0
  have h3x1 := hx3.c1
  have h3x2 := hx3.c2
  have h3x3 := hx3.c3
  have h3g1 := hx3.frozen 1
  have h3g2 := hx3.frozen 2
  clear hM3 hS3 hk3 hx3 hk hB hx1 hx2
  rw [HXX.out]
  go_wp2_with fail
  generalize bs.drop 4 = bs4 at HST HPZ HPI HD4 HR3
  clear h30 h31 h32 h33 h3f0 h3f1 h3f2 h3f3 h3x0 h3x1 h3x2 h3x3 h3g1 h3g2 h3c2
  go_loopw [7] (fun i wr => ∃ (q : Nat) (aL : Option Addr) (cL : Nat) (l : List Tree) (xs : List Value) (r : List UInt8) (M : Int) (bad : Bool), q ≤ X ∧ i = .int .u64 (q : Nat) ∧ l.length = q ∧ OwnT wr (w.heap.size + 2) (w.heap.size + 2) (.slice aL q cL) l xs ∧
      Blk wr w.heap.size 26 #[.int .i64 0, .int .i64 0, .string ⟨#[]⟩, .slice none 0 0] ∧ Blk wr (w.heap.size + 1) 26 #[.int .i64 3, .int .i64 0, .string ⟨#[]⟩, .slice aL q cL] ∧ Moved w wr (· = g) ∧ RdAt wr g r M bad ∧
      (bad = false → M = L - 1 - countL l ∧ PzL ((d : Int) - 1) (L - 1) bs4 l r) ∧ (bad = true → ∀ u x, ¬ Pz d L (b :: bs) u x)) (fun i _ => X - (intOf i).toNat)
  case atStart => exact ⟨0, none, 0, [], [], bs4, L - 1, false, Nat.zero_le _, rfl, rfl, OwnT.nil _ _ _, HK3.out, HX3.out, HM3.out, HR3.out, fun _ => ⟨by simp [countL], HST.out⟩, fun h => by cases h⟩
  case round =>
    obtain ⟨q, aL, cL, l, xs, r, M, bad, hq, rfl, hl, hO, hbk0, hbk1, hmv, hrd, hgood, hbad⟩ := hrel
    have HO := Lib.hid hO
    have HK0 := Lib.hid hbk0
    have HK1 := Lib.hid hbk1
    have HW := Lib.hid hmv
    have HR := Lib.hid hrd
    have HG := Lib.hid hgood
    have HBB := Lib.hid hbad
    have HLQ := Lib.hid hl
    have hg1 := hbk1.lt
    have hsz : w.heap.size + 1 < wr.heap.size := hg1
    have hc3 := hbk1.c3
    have hf3 := hbk1.frozen 3
    have hgw : g < wr.heap.size := by omega
    obtain ⟨A6, n6, cap6, hk6, hB6, hx61, hx62⟩ := hrd
    have hcb : wr.cell? ⟨g, 2, none⟩ = some _ := hk6.cell 2
    clear hO hmv hgood hbad hk6 hB6 hx61 hx62 hl hc0 hc1 hc2 hf0 hf1 hf2
    by_cases hgo : q < X ∧ bad = false
    · obtain ⟨hlt, rfl⟩ := hgo
      clear hbk0 hbk1
      have hM0 : 0 ≤ M ∧ M ≤ 20000 := by have := (HG.out rfl).1; have := (HG.out rfl).2.cnt; omega
      have hrl : r.length ≤ 4194304 := by have h1 := congrArg List.length (HG.out rfl).2.eq; have h2 := HD4.out; rw [List.length_append] at h1; omega
      have HC : Hid (∀ W, W.heap = wr.heap → Calls Try.prog 38 #[.pointer (some ⟨g, 0, none⟩), .int .i64 ((d : Int) - 1)] W (RdP W g ((d : Int) - 1) M r)) := fun W e => HIH.out W r M hrl hM0.1 hM0.2 (HR.out.keep fun i _ => by rw [e])
      unfold RdP val at HC
      have hltz : (q : Int) < (X : Int) := by omega
      have hwq : IntKind.u64.wrap ((q : Int) + 1) = (q : Int) + 1 := by rw [IntKind.wrap_u64]; omega
      go_wp2_with fail
      go_region_law (first
        | (refine step_append_any _ rfl (.tmp 83) (.tmp 88) _ rfl (w.heap.size + 2) 26 i0 _ 4 56 Try.underlying24 hi0 hz0 hz1 hz2 rfl (by omega) (.slice aL q cL) q xs rfl
             (by have := (HO2.out.alloc (.cells #[.int .i64 tu.kind, .int .i64 tu.num, .string tu.text, .slice a' tu.list.length c'] 26)).own; rw [HLQ.out] at this; exact this)
             (w2.heap.size + 1) (some ⟨w2.heap.size, 0, none⟩) 1 1 (tu.item a' c') rfl (reads_item w2 tu a' c') (item_one _ _ _) (by simp only [maxLen]; omega) (by omega) (by simp; omega) ?_
           intro v6 w6 hown6 hg6 hat6
           have hX : OwnT w6 (w.heap.size + 2) (w.heap.size + 2) v6 (l ++ [tu]) (xs ++ tu.item a' c') := by
             refine OwnT.push (HO2.out.alloc (.cells #[.int .i64 tu.kind, .int .i64 tu.num, .string tu.text, .slice a' tu.list.length c'] 26)) ?_ (by rw [HLQ.out]; exact hown6) hg6 hat6
             refine (HAT.out.keep fun b hb => ((Below.refl w2.heap.size w2).alloc (Nat.le_refl _) _).block b hb.2).imp fun b hb => ⟨by omega, by simp; omega, fun e => ?_⟩
             have h1 := (HO.out.own.lt _ e).2
             omega
           obtain ⟨g6, c6, hv6, _, _⟩ := hown6.form (by omega)
           subst hv6
           have HX := Lib.hid hX
           have hne : ∀ g, g < w.heap.size + 2 → some g ≠ Value.ownBlock (.slice aL q cL) := fun g hg e => by
             have := (HO.out.own.lt _ e.symm).1; omega
           have hk16 := (HK12.out.alloc (.cells #[.int .i64 tu.kind, .int .i64 tu.num, .string tu.text, .slice a' tu.list.length c'] 26)).grown hg6 (hne _ (by omega))
           have HK16 := Lib.hid hk16
           have HK06 := Lib.hid ((HK02.out.alloc (.cells #[.int .i64 tu.kind, .int .i64 tu.num, .string tu.text, .slice a' tu.list.length c'] 26)).grown hg6 (hne _ (by omega)))
           have hc36 := hk16.c3
           have hf36 := hk16.frozen 3
           have HW6 : Hid (Moved w w6 (· = g)) := (HW2.out.alloc _).grown hg6 (fun k hk hlt => absurd (HO.out.own.lt k hk).1 (by omega))
           have HG6 : Hid (∀ i, i ≤ g → w6.heap[i]? = w2.heap[i]?) := fun i hi => (hg6.block i (by simp; omega) (hne _ (by omega))).trans (((Below.refl w2.heap.size w2).alloc (Nat.le_refl _) _).block i (by omega))
           clear hown6 hg6 hat6 hX hne hk16)
        | (go_simp
           go_at_call 38
           refine (HC.out _ ?_).mono ?_
           exact rfl
           rintro e w2 ⟨tu, a', c', rfl, hAt, hb2', hP⟩
           have hb2 : Moved wr w2 (· = g) := ((Moved.refl wr _).drew).trans hb2' (fun _ _ h => h)
           have HAT : Hid (At w2 (fun b => wr.heap.size ≤ b ∧ b < w2.heap.size) tu a' c') := hAt
           have HPP := Lib.hid hP
           have hs2 := hb2.size
           have hgw2 : g < w2.heap.size := by omega
           have hg12 : w.heap.size + 1 < w2.heap.size := by omega
           have HO2 : Hid (OwnT w2 (w.heap.size + 2) (w.heap.size + 2) (.slice aL q cL) l xs) := HO.out.keep (fun b hb hbl => hb2.block b hb (fun e => by
             rcases hbl with h | h
             · omega
             · have := (HO.out.own.lt _ h).1; omega)) hb2.size
           have hk12 : Blk w2 (w.heap.size + 1) 26 #[.int .i64 3, .int .i64 0, .string ⟨#[]⟩, .slice aL q cL] := (hb2.block _ hg1 (by omega)).trans HK1.out
           have HK12 := Lib.hid hk12
           have HK02 : Hid (Blk w2 w.heap.size 26 #[.int .i64 0, .int .i64 0, .string ⟨#[]⟩, .slice none 0 0]) := (hb2.block _ (by omega) (by omega)).trans HK0.out
           have HW2 : Hid (Moved w w2 (· = g)) := HW.out.trans hb2 (fun _ _ h => h)
           have hc32 := hk12.c3
           have hf32 := hk12.frozen 3
           clear hAt hb2' hb2 hk12 hP))
      all_goals
        go_wp2_with fail
        go_roundw
        case rel =>
          have hO6 := HX.out.keep (w' := w6.setCell ⟨w.heap.size + 1, 3, none⟩ (.slice (some ⟨g6, 0, none⟩) (q + 1) c6)) (fun b hb hbl => Below.heap_setCell w6 _ _ b (fun e => by
            subst e
            rcases hbl with h | h
            · simp at h
            · have := (HX.out.own.lt _ h).1; simp at this)) (by simp [World.setCell])
          have hk6 : ∀ i, i ≤ g → (w6.setCell ⟨w.heap.size + 1, 3, none⟩ (.slice (some ⟨g6, 0, none⟩) (q + 1) c6)).heap[i]? = w2.heap[i]? := fun i hi => (Below.heap_setCell w6 _ _ i (by show i ≠ w.heap.size + 1; omega)).trans (HG6.out i hi)
          have hmv6 : Moved w (w6.setCell ⟨w.heap.size + 1, 3, none⟩ (.slice (some ⟨g6, 0, none⟩) (q + 1) c6)) (· = g) := HW6.out.setCell (fun h => absurd h (by show ¬ (w.heap.size + 1 < w.heap.size); omega)) _
          rcases HPP.out with ⟨r', hpz, hr'⟩ | ⟨r', M', hr', hno⟩
          · refine ⟨q + 1, some ⟨g6, 0, none⟩, c6, l ++ [tu], _, r', M - tu.count, false, by omega, by go_num, by simp [HLQ.out], hO6, HK06.out.far (by show w.heap.size ≠ w.heap.size + 1; omega) _, HK16.out.set_ 3 _, hmv6, hr'.keep hk6, fun _ => ?_, fun h => by cases h⟩
            obtain ⟨e1, e2⟩ := HG.out (by trivial)
            refine ⟨by rw [countL_append]; simp only [countL]; omega, pzL_snoc e2 (by rw [← e1]; exact hpz)⟩
          · refine ⟨q + 1, some ⟨g6, 0, none⟩, c6, l ++ [tu], _, r', M', true, by omega, by go_num, by simp [HLQ.out], hO6, HK06.out.far (by show w.heap.size ≠ w.heap.size + 1; omega) _, HK16.out.set_ 3 _, hmv6, hr'.keep hk6, (fun h => by cases h), fun _ u x hu => ?_⟩
            obtain ⟨e1, e2⟩ := HG.out (by trivial)
            obtain ⟨k1, k2⟩ := HPZ.out u x hu
            have := HLQ.out
            exact pzL_no (by have := HD4.out; omega) e2 (by omega) (by rw [← e1]; exact hno) k1
        case measure => simp [intOf]; omega
    · have h00 := hbk0.c0
      have h01 := hbk0.c1
      have h02 := hbk0.c2
      have h03 := hbk0.c3
      have hf00 := hbk0.frozen 0
      have hf01 := hbk0.frozen 1
      have hf02 := hbk0.frozen 2
      have hf03 := hbk0.frozen 3
      have h10 := hbk1.c0
      have h11 := hbk1.c1
      have h12 := hbk1.c2
      clear hbk0 hbk1
      have hcs : (q = X ∧ Hid (bad = true ∨ bad = false)) ∨ (q < X ∧ bad = true) := by
        rcases Nat.lt_or_ge q X with h | h
        · right; refine ⟨h, ?_⟩; cases bad
          · exact absurd ⟨h, rfl⟩ hgo
          · rfl
        · left; refine ⟨by omega, ?_⟩; cases bad
          · exact .inr rfl
          · exact .inl rfl
      clear hgo
      have HFIN : Hid (∀ W, W = put4 wr w.heap.size (.int .i64 3) (.int .i64 0) (.string ⟨#[]⟩) (.slice aL q cL) → (q = X ∨ bad = true) → Blk W w.heap.size 26 #[.int .i64 3, .int .i64 0, .string ⟨#[]⟩, .slice aL q cL] ∧ RdP w g d L (b :: bs) (.returned (.agg #[.int .i64 3, .int .i64 0, .string ⟨#[]⟩, .slice aL q cL])) W) := fun W hW hqq => by
        subst hW
        refine ⟨Blk.put4 HK0.out, ?_⟩
        obtain ⟨a6, c6, hv6, _, _, hA6⟩ := HO.out.form 3 0 ⟨#[]⟩
        injection hv6 with e1 e2 e3
        subst e1 e3
        refine ⟨.mk 3 0 ⟨#[]⟩ l, aL, cL, by simp only [val, kind, Tree.num, text, list]; rw [← e2], ?_, HW.out.put4_, ?_⟩
        · refine (hA6.keep (w' := put4 wr w.heap.size _ _ _ _) fun b hb => put4_block (by have := hb.1; omega)).imp fun b hb => ⟨by have := hb.1; omega, ?_⟩
          have := hb.2
          exact Nat.lt_of_lt_of_eq this put4_size.symm
        · cases bad with
          | true => exact .inr ⟨r, M, HR.out.put4_ hg, HBB.out rfl⟩
          | false =>
            obtain ⟨e4, e5⟩ := HG.out rfl
            rcases hqq with h | h
            · refine .inl ⟨r, HPI.out l r (by rw [HLQ.out, h]) e5, ?_⟩
              have e : L - ((Tree.mk 3 0 ⟨#[]⟩ l).count : Nat) = M := by rw [count_eq, e4]; simp only [list]; omega
              rw [e]
              exact HR.out.put4_ hg
            · cases h
      rcases hcs with ⟨rfl, hbb⟩ | ⟨hlt, rfl⟩
      · go_wp2_with fail
        exact bodyPost_ret (res_cell rfl (HFIN.out _ rfl (.inl (by trivial))).1 rfl) rfl (HFIN.out _ rfl (.inl (by trivial))).2
      · have hltz : (q : Int) < (X : Int) := by omega
        go_wp2_with fail
        exact bodyPost_ret (res_cell rfl (HFIN.out _ rfl (.inr (by trivial))).1 rfl) rfl (HFIN.out _ rfl (.inr (by trivial))).2
end Go.Proofs.Ytkmikpmbnfcbpaa
