/- The contract of the reader's item, of a text. -/
import Derived.Test.YtkmikpmbnfcbpaaHg
namespace Go.Proofs.Ytkmikpmbnfcbpaa
open Go.RowKit Go.Lib
set_option linter.unusedVariables false
open Tree

set_option maxHeartbeats 2000000 in
theorem item_txt_short (d : Nat) (w : World) (g : Nat) (b : UInt8) (bs : List UInt8) (L : Int) (hd : d ≤ 20) (h0 : ¬ (L - 1 < 0)) (h1 : L ≤ 20000) (hd0 : ¬ ((d : Int) = 0)) (hR : RdAt w g (b :: bs) L false) (hb : b.toNat = 2) (hlen : bs.length ≤ 4194304) (hn : bs.length < 4) :
    Calls Try.prog 38 #[.pointer (some ⟨g, 0, none⟩), .int .i64 d] w (RdP w g d L (b :: bs)) := by
  have HR := Lib.hid hR
  have hg := hR.lt
  obtain ⟨A, n, cap, hk, hB, hx1, hx2⟩ := hR
  have hc0 : w.cell? ⟨g, 0, none⟩ = some _ := hk.cell 0
  have hc1 : w.cell? ⟨g, 1, none⟩ = some _ := hk.cell 1
  have hc2 : w.cell? ⟨g, 2, none⟩ = some _ := hk.cell 2
  have hf0 := hk.frozen 0
  have hf1 := hk.frozen 1
  have hf2 := hk.frozen 2
  have hwL : IntKind.i64.wrap (L - 1) = L - 1 := IntWalk.i64_in _ (by omega)
  clear hk hB hx1 hx2
  have HPZ : Hid (∀ u x, ¬ Pz d L (b :: bs) u x) := fun u x => pz_no_four (.inl hb) hn
  have HHN := Lib.hid hn
  skip
  have hdz : ((d : Int) == 0) = false := beq_eq_false_iff_ne.2 hd0
  replace hb : (b.toNat : Int) = 2 := by omega
  clear hn hlen
  go_enter Try.func38, Try.ntmps38
  go_wp2_with fail
  obtain ⟨hR1, hM1, hS1, hK1⟩ := began_at (L' := L - 1) (b := false) HR.out
  refine (num1_ok (began w g (L - 1) false) g b bs (L - 1) 2 hR1 hb).mono ?_
  rintro e w2 ⟨rfl, hR2, hM2, hS2⟩
  have HR2 := Lib.hid hR2
  have HM2 : Hid (Moved w w2 (· = g)) := hM1.trans hM2 (fun i _ h => h)
  have hk2 : Blk w2 w.heap.size 26 #[.int .i64 0, .int .i64 0, .string ⟨#[]⟩, .slice none 0 0] := (hM2.block w.heap.size (by omega) (by omega)).trans hK1
  have HK2 := Lib.hid hk2
  have hs2 : w2.heap.size = w.heap.size + 1 := by omega
  have hg2 : w.heap.size < w2.heap.size := by omega
  have hgg : g < w2.heap.size := by omega
  obtain ⟨A, n, cap, hk, hB, hx1, hx2⟩ := hR2
  have h2c2 : w2.cell? ⟨g, 2, none⟩ = some _ := hk.cell 2
  have h2fr := hk.frozen 2
  have h20 := hk2.c0
  have h21 := hk2.c1
  have h22 := hk2.c2
  have h23 := hk2.c3
  have h2f0 := hk2.frozen 0
  have h2f1 := hk2.frozen 1
  have h2f2 := hk2.frozen 2
  have h2f3 := hk2.frozen 3
  clear hR1 hM1 hS1 hK1 hM2 hS2 hk2 hk hB hx1 hx2
  go_wp2_with fail
  have HK2x : Hid (Blk (w2.alloc (.cells #[.int .i64 2, .int .i64 0, .string ⟨#[]⟩, .slice none 0 0] 26)) w.heap.size 26 #[.int .i64 0, .int .i64 0, .string ⟨#[]⟩, .slice none 0 0]) := HK2.out.alloc _
  have HX2 : Hid (Blk (w2.alloc (.cells #[.int .i64 2, .int .i64 0, .string ⟨#[]⟩, .slice none 0 0] 26)) (w.heap.size + 1) 26 #[.int .i64 2, .int .i64 0, .string ⟨#[]⟩, .slice none 0 0]) := by have := Blk.new w2 26 #[.int .i64 2, .int .i64 0, .string ⟨#[]⟩, .slice none 0 0]; rw [hs2] at this; exact this
  have HM2x : Hid (Moved w (w2.alloc (.cells #[.int .i64 2, .int .i64 0, .string ⟨#[]⟩, .slice none 0 0] 26)) (· = g)) := HM2.out.alloc _
  have HR2x : Hid (RdAt (w2.alloc (.cells #[.int .i64 2, .int .i64 0, .string ⟨#[]⟩, .slice none 0 0] 26)) g bs (L - 1) false) := HR2.out.alloc _
  refine (num_bad _ g 4 bs (L - 1) false HR2x.out (.inr HHN.out) (by omega)).mono ?_
  rintro e w3 ⟨rfl, hR3, hM3, hS3⟩
  have HR3 := Lib.hid hR3
  have HM3 : Hid (Moved w w3 (· = g)) := HM2x.out.trans hM3 (fun i _ h => h)
  have hk3 : Blk w3 w.heap.size 26 #[.int .i64 0, .int .i64 0, .string ⟨#[]⟩, .slice none 0 0] := (hM3.block w.heap.size (by rw [size_alloc]; omega) (by omega)).trans HK2x.out
  have hx3 : Blk w3 (w.heap.size + 1) 26 #[.int .i64 2, .int .i64 0, .string ⟨#[]⟩, .slice none 0 0] := (hM3.block (w.heap.size + 1) (by rw [size_alloc]; omega) (by omega)).trans HX2.out
  have HK3 := Lib.hid hk3
  have HX3 := Lib.hid hx3
  have hs3 : w3.heap.size = w.heap.size + 2 := by rw [hS3, size_alloc]; omega
  obtain ⟨A, n, cap, hk, hB, hx1, hx2⟩ := hR3
  have h3c2 : w3.cell? ⟨g, 2, none⟩ = some _ := hk.cell 2
  have h30 := hk3.c0
  have h31 := hk3.c1
  have h32 := hk3.c2
  have h33 := hk3.c3
  have h3f0 := hk3.frozen 0
  have h3f1 := hk3.frozen 1
  have h3f2 := hk3.frozen 2
  have h3f3 := hk3.frozen 3
  have h3x0 := hx3.c0
  have h3x1 := hx3.c1
  have h3x2 := hx3.c2
  have h3x3 := hx3.c3
  have h3g1 := hx3.frozen 1
  have h3g2 := hx3.frozen 2
  clear hM3 hS3 hk3 hx3 hk hB hx1 hx2
  skip
  go_wp2_with fail
  refine (cut_bad _ g 0 bs (L - 1) true HR3.out (.inl rfl) (by omega)).mono ?_
  rintro e w4 ⟨rfl, hR4, hM4, hS4⟩
  have HR4 := Lib.hid hR4
  have HM4 : Hid (Moved w w4 (· = g)) := HM3.out.trans hM4 (fun i _ h => h)
  have hk4 : Blk w4 w.heap.size 26 #[.int .i64 0, .int .i64 0, .string ⟨#[]⟩, .slice none 0 0] := (hM4.block w.heap.size (by omega) (by omega)).trans HK3.out
  have hx4 : Blk w4 (w.heap.size + 1) 26 #[.int .i64 2, .int .i64 0, .string ⟨#[]⟩, .slice none 0 0] := (hM4.block (w.heap.size + 1) (by omega) (by omega)).trans HX3.out
  have HK4 := Lib.hid hk4
  have HX4 := Lib.hid hx4
  have hs4 : w4.heap.size = w.heap.size + 2 := by omega
  obtain ⟨A4, n4, cap4, hk, hB', hx1, hx2⟩ := hR4
  have h4c2 : w4.cell? ⟨g, 2, none⟩ = some _ := hk.cell 2
  have h40 := hk4.c0
  have h41 := hk4.c1
  have h42 := hk4.c2
  have h43 := hk4.c3
  have h4f0 := hk4.frozen 0
  have h4f1 := hk4.frozen 1
  have h4f2 := hk4.frozen 2
  have h4f3 := hk4.frozen 3
  have h4x0 := hx4.c0
  have h4x1 := hx4.c1
  have h4x2 := hx4.c2
  have h4x3 := hx4.c3
  have h4g1 := hx4.frozen 1
  have h4g2 := hx4.frozen 2
  have hcv : (convert 22 9 (.slice none 0 0)).run Try.prog w4 = .ok (.string ⟨#[]⟩) w4 := conv_byt (Byt.nil (B := g))
  have HCV := Lib.hid hcv
  clear hM4 hS4 hk4 hx4 hk hB' hx1 hx2
  go_wp2_with fail
  exact bodyPost_ret (res_cell rfl (Blk.put4 (HK4.out.far (by show w.heap.size ≠ w.heap.size + 1; omega) _)) rfl) rfl ⟨.mk 2 0 ⟨#[]⟩ [], none, 0, rfl, at_leaf _ _ _ _ _, (HM4.out.setCell (p := ⟨w.heap.size + 1, 2, none⟩) (fun h => absurd h (by show ¬ (w.heap.size + 1 < w.heap.size); omega)) _).put4_, .inr ⟨bs, L - 1, ((HR4.out.keep fun i hi => Below.heap_setCell w4 ⟨w.heap.size + 1, 2, none⟩ _ i (by show i ≠ w.heap.size + 1; omega)).put4_ hg), HPZ.out⟩⟩

set_option maxHeartbeats 2000000 in
theorem item_txt_cut (d : Nat) (w : World) (g : Nat) (b : UInt8) (bs : List UInt8) (L : Int) (hd : d ≤ 20) (h0 : ¬ (L - 1 < 0)) (h1 : L ≤ 20000) (hd0 : ¬ ((d : Int) = 0)) (hR : RdAt w g (b :: bs) L false) (hb : b.toNat = 2) (hlen : bs.length ≤ 4194304) (hn : 4 ≤ bs.length ∧ (bs.drop 4).length < ofBe (bs.take 4)) :
    Calls Try.prog 38 #[.pointer (some ⟨g, 0, none⟩), .int .i64 d] w (RdP w g d L (b :: bs)) := by
  have HR := Lib.hid hR
  have hg := hR.lt
  obtain ⟨A, n, cap, hk, hB, hx1, hx2⟩ := hR
  have hc0 : w.cell? ⟨g, 0, none⟩ = some _ := hk.cell 0
  have hc1 : w.cell? ⟨g, 1, none⟩ = some _ := hk.cell 1
  have hc2 : w.cell? ⟨g, 2, none⟩ = some _ := hk.cell 2
  have hf0 := hk.frozen 0
  have hf1 := hk.frozen 1
  have hf2 := hk.frozen 2
  have hwL : IntKind.i64.wrap (L - 1) = L - 1 := IntWalk.i64_in _ (by omega)
  clear hk hB hx1 hx2
  have HPZ : Hid (∀ u x, ¬ Pz d L (b :: bs) u x) := fun u x => pz_no_txt hb (by omega) hn.2
  have HHN := Lib.hid hn
  have hXl : ofBe (bs.take 4) < 4294967296 := by
    have h := ofBe_lt (bs.take 4)
    have hl : (bs.take 4).length = 4 := by rw [List.length_take]; omega
    rw [hl] at h
    exact h
  obtain ⟨X, hX⟩ : ∃ X, ofBe (bs.take 4) = X := ⟨_, rfl⟩
  rw [hX] at hXl HHN
  have hwX : IntKind.i64.wrap (X : Int) = X := IntWalk.i64_in _ (by omega)
  have HXX := Lib.hid hX
  clear hX
  have hdz : ((d : Int) == 0) = false := beq_eq_false_iff_ne.2 hd0
  replace hb : (b.toNat : Int) = 2 := by omega
  clear hn hlen
  go_enter Try.func38, Try.ntmps38
  go_wp2_with fail
  obtain ⟨hR1, hM1, hS1, hK1⟩ := began_at (L' := L - 1) (b := false) HR.out
  refine (num1_ok (began w g (L - 1) false) g b bs (L - 1) 2 hR1 hb).mono ?_
  rintro e w2 ⟨rfl, hR2, hM2, hS2⟩
  have HR2 := Lib.hid hR2
  have HM2 : Hid (Moved w w2 (· = g)) := hM1.trans hM2 (fun i _ h => h)
  have hk2 : Blk w2 w.heap.size 26 #[.int .i64 0, .int .i64 0, .string ⟨#[]⟩, .slice none 0 0] := (hM2.block w.heap.size (by omega) (by omega)).trans hK1
  have HK2 := Lib.hid hk2
  have hs2 : w2.heap.size = w.heap.size + 1 := by omega
  have hg2 : w.heap.size < w2.heap.size := by omega
  have hgg : g < w2.heap.size := by omega
  obtain ⟨A, n, cap, hk, hB, hx1, hx2⟩ := hR2
  have h2c2 : w2.cell? ⟨g, 2, none⟩ = some _ := hk.cell 2
  have h2fr := hk.frozen 2
  have h20 := hk2.c0
  have h21 := hk2.c1
  have h22 := hk2.c2
  have h23 := hk2.c3
  have h2f0 := hk2.frozen 0
  have h2f1 := hk2.frozen 1
  have h2f2 := hk2.frozen 2
  have h2f3 := hk2.frozen 3
  clear hR1 hM1 hS1 hK1 hM2 hS2 hk2 hk hB hx1 hx2
  go_wp2_with fail
  have HK2x : Hid (Blk (w2.alloc (.cells #[.int .i64 2, .int .i64 0, .string ⟨#[]⟩, .slice none 0 0] 26)) w.heap.size 26 #[.int .i64 0, .int .i64 0, .string ⟨#[]⟩, .slice none 0 0]) := HK2.out.alloc _
  have HX2 : Hid (Blk (w2.alloc (.cells #[.int .i64 2, .int .i64 0, .string ⟨#[]⟩, .slice none 0 0] 26)) (w.heap.size + 1) 26 #[.int .i64 2, .int .i64 0, .string ⟨#[]⟩, .slice none 0 0]) := by have := Blk.new w2 26 #[.int .i64 2, .int .i64 0, .string ⟨#[]⟩, .slice none 0 0]; rw [hs2] at this; exact this
  have HM2x : Hid (Moved w (w2.alloc (.cells #[.int .i64 2, .int .i64 0, .string ⟨#[]⟩, .slice none 0 0] 26)) (· = g)) := HM2.out.alloc _
  have HR2x : Hid (RdAt (w2.alloc (.cells #[.int .i64 2, .int .i64 0, .string ⟨#[]⟩, .slice none 0 0] 26)) g bs (L - 1) false) := HR2.out.alloc _
  refine (num_ok _ g 4 bs (L - 1) HR2x.out HHN.out.1 (by omega)).mono ?_
  rintro e w3 ⟨rfl, hR3, hM3, hS3⟩
  have HR3 := Lib.hid hR3
  have HM3 : Hid (Moved w w3 (· = g)) := HM2x.out.trans hM3 (fun i _ h => h)
  have hk3 : Blk w3 w.heap.size 26 #[.int .i64 0, .int .i64 0, .string ⟨#[]⟩, .slice none 0 0] := (hM3.block w.heap.size (by rw [size_alloc]; omega) (by omega)).trans HK2x.out
  have hx3 : Blk w3 (w.heap.size + 1) 26 #[.int .i64 2, .int .i64 0, .string ⟨#[]⟩, .slice none 0 0] := (hM3.block (w.heap.size + 1) (by rw [size_alloc]; omega) (by omega)).trans HX2.out
  have HK3 := Lib.hid hk3
  have HX3 := Lib.hid hx3
  have hs3 : w3.heap.size = w.heap.size + 2 := by rw [hS3, size_alloc]; omega
  obtain ⟨A, n, cap, hk, hB, hx1, hx2⟩ := hR3
  have h3c2 : w3.cell? ⟨g, 2, none⟩ = some _ := hk.cell 2
  have h30 := hk3.c0
  have h31 := hk3.c1
  have h32 := hk3.c2
  have h33 := hk3.c3
  have h3f0 := hk3.frozen 0
  have h3f1 := hk3.frozen 1
  have h3f2 := hk3.frozen 2
  have h3f3 := hk3.frozen 3
  have h3x0 := hx3.c0
  have h3x1 := hx3.c1
  have h3x2 := hx3.c2
  have h3x3 := hx3.c3
  have h3g1 := hx3.frozen 1
  have h3g2 := hx3.frozen 2
  clear hM3 hS3 hk3 hx3 hk hB hx1 hx2
  rw [HXX.out]
  go_wp2_with fail
  refine (cut_bad _ g X (bs.drop 4) (L - 1) false HR3.out (.inr HHN.out.2) (by omega)).mono ?_
  rintro e w4 ⟨rfl, hR4, hM4, hS4⟩
  have HR4 := Lib.hid hR4
  have HM4 : Hid (Moved w w4 (· = g)) := HM3.out.trans hM4 (fun i _ h => h)
  have hk4 : Blk w4 w.heap.size 26 #[.int .i64 0, .int .i64 0, .string ⟨#[]⟩, .slice none 0 0] := (hM4.block w.heap.size (by omega) (by omega)).trans HK3.out
  have hx4 : Blk w4 (w.heap.size + 1) 26 #[.int .i64 2, .int .i64 0, .string ⟨#[]⟩, .slice none 0 0] := (hM4.block (w.heap.size + 1) (by omega) (by omega)).trans HX3.out
  have HK4 := Lib.hid hk4
  have HX4 := Lib.hid hx4
  have hs4 : w4.heap.size = w.heap.size + 2 := by omega
  obtain ⟨A4, n4, cap4, hk, hB', hx1, hx2⟩ := hR4
  have h4c2 : w4.cell? ⟨g, 2, none⟩ = some _ := hk.cell 2
  have h40 := hk4.c0
  have h41 := hk4.c1
  have h42 := hk4.c2
  have h43 := hk4.c3
  have h4f0 := hk4.frozen 0
  have h4f1 := hk4.frozen 1
  have h4f2 := hk4.frozen 2
  have h4f3 := hk4.frozen 3
  have h4x0 := hx4.c0
  have h4x1 := hx4.c1
  have h4x2 := hx4.c2
  have h4x3 := hx4.c3
  have h4g1 := hx4.frozen 1
  have h4g2 := hx4.frozen 2
  have hcv : (convert 22 9 (.slice none 0 0)).run Try.prog w4 = .ok (.string ⟨#[]⟩) w4 := conv_byt (Byt.nil (B := g))
  have HCV := Lib.hid hcv
  clear hM4 hS4 hk4 hx4 hk hB' hx1 hx2
  go_wp2_with fail
  exact bodyPost_ret (res_cell rfl (Blk.put4 (HK4.out.far (by show w.heap.size ≠ w.heap.size + 1; omega) _)) rfl) rfl ⟨.mk 2 0 ⟨#[]⟩ [], none, 0, rfl, at_leaf _ _ _ _ _, (HM4.out.setCell (p := ⟨w.heap.size + 1, 2, none⟩) (fun h => absurd h (by show ¬ (w.heap.size + 1 < w.heap.size); omega)) _).put4_, .inr ⟨bs.drop 4, L - 1, ((HR4.out.keep fun i hi => Below.heap_setCell w4 ⟨w.heap.size + 1, 2, none⟩ _ i (by show i ≠ w.heap.size + 1; omega)).put4_ hg), HPZ.out⟩⟩

set_option maxHeartbeats 2000000 in
theorem item_txt_ok (d : Nat) (w : World) (g : Nat) (b : UInt8) (bs : List UInt8) (L : Int) (hd : d ≤ 20) (h0 : ¬ (L - 1 < 0)) (h1 : L ≤ 20000) (hd0 : ¬ ((d : Int) = 0)) (hR : RdAt w g (b :: bs) L false) (hb : b.toNat = 2) (hlen : bs.length ≤ 4194304) (hn : 4 ≤ bs.length ∧ ofBe (bs.take 4) ≤ (bs.drop 4).length) :
    Calls Try.prog 38 #[.pointer (some ⟨g, 0, none⟩), .int .i64 d] w (RdP w g d L (b :: bs)) := by
  have HR := Lib.hid hR
  have hg := hR.lt
  obtain ⟨A, n, cap, hk, hB, hx1, hx2⟩ := hR
  have hc0 : w.cell? ⟨g, 0, none⟩ = some _ := hk.cell 0
  have hc1 : w.cell? ⟨g, 1, none⟩ = some _ := hk.cell 1
  have hc2 : w.cell? ⟨g, 2, none⟩ = some _ := hk.cell 2
  have hf0 := hk.frozen 0
  have hf1 := hk.frozen 1
  have hf2 := hk.frozen 2
  have hwL : IntKind.i64.wrap (L - 1) = L - 1 := IntWalk.i64_in _ (by omega)
  clear hk hB hx1 hx2
  have HPZ : Hid (Pz d L (b :: bs) (.mk 2 0 ⟨((bs.drop 4).take (ofBe (bs.take 4))).toArray⟩ []) ((bs.drop 4).drop (ofBe (bs.take 4)))) := pz_txt hb (by omega) (by omega) hn.1 (by omega) hn.2
  have HHN := Lib.hid hn
  have hXl : ofBe (bs.take 4) < 4294967296 := by
    have h := ofBe_lt (bs.take 4)
    have hl : (bs.take 4).length = 4 := by rw [List.length_take]; omega
    rw [hl] at h
    exact h
  obtain ⟨X, hX⟩ : ∃ X, ofBe (bs.take 4) = X := ⟨_, rfl⟩
  rw [hX] at hXl HHN HPZ
  have hwX : IntKind.i64.wrap (X : Int) = X := IntWalk.i64_in _ (by omega)
  have HXX := Lib.hid hX
  clear hX
  have hdz : ((d : Int) == 0) = false := beq_eq_false_iff_ne.2 hd0
  replace hb : (b.toNat : Int) = 2 := by omega
  clear hn hlen
  go_enter Try.func38, Try.ntmps38
  go_wp2_with fail
  obtain ⟨hR1, hM1, hS1, hK1⟩ := began_at (L' := L - 1) (b := false) HR.out
  refine (num1_ok (began w g (L - 1) false) g b bs (L - 1) 2 hR1 hb).mono ?_
  rintro e w2 ⟨rfl, hR2, hM2, hS2⟩
  have HR2 := Lib.hid hR2
  have HM2 : Hid (Moved w w2 (· = g)) := hM1.trans hM2 (fun i _ h => h)
  have hk2 : Blk w2 w.heap.size 26 #[.int .i64 0, .int .i64 0, .string ⟨#[]⟩, .slice none 0 0] := (hM2.block w.heap.size (by omega) (by omega)).trans hK1
  have HK2 := Lib.hid hk2
  have hs2 : w2.heap.size = w.heap.size + 1 := by omega
  have hg2 : w.heap.size < w2.heap.size := by omega
  have hgg : g < w2.heap.size := by omega
  obtain ⟨A, n, cap, hk, hB, hx1, hx2⟩ := hR2
  have h2c2 : w2.cell? ⟨g, 2, none⟩ = some _ := hk.cell 2
  have h2fr := hk.frozen 2
  have h20 := hk2.c0
  have h21 := hk2.c1
  have h22 := hk2.c2
  have h23 := hk2.c3
  have h2f0 := hk2.frozen 0
  have h2f1 := hk2.frozen 1
  have h2f2 := hk2.frozen 2
  have h2f3 := hk2.frozen 3
  clear hR1 hM1 hS1 hK1 hM2 hS2 hk2 hk hB hx1 hx2
  go_wp2_with fail
  have HK2x : Hid (Blk (w2.alloc (.cells #[.int .i64 2, .int .i64 0, .string ⟨#[]⟩, .slice none 0 0] 26)) w.heap.size 26 #[.int .i64 0, .int .i64 0, .string ⟨#[]⟩, .slice none 0 0]) := HK2.out.alloc _
  have HX2 : Hid (Blk (w2.alloc (.cells #[.int .i64 2, .int .i64 0, .string ⟨#[]⟩, .slice none 0 0] 26)) (w.heap.size + 1) 26 #[.int .i64 2, .int .i64 0, .string ⟨#[]⟩, .slice none 0 0]) := by have := Blk.new w2 26 #[.int .i64 2, .int .i64 0, .string ⟨#[]⟩, .slice none 0 0]; rw [hs2] at this; exact this
  have HM2x : Hid (Moved w (w2.alloc (.cells #[.int .i64 2, .int .i64 0, .string ⟨#[]⟩, .slice none 0 0] 26)) (· = g)) := HM2.out.alloc _
  have HR2x : Hid (RdAt (w2.alloc (.cells #[.int .i64 2, .int .i64 0, .string ⟨#[]⟩, .slice none 0 0] 26)) g bs (L - 1) false) := HR2.out.alloc _
  refine (num_ok _ g 4 bs (L - 1) HR2x.out HHN.out.1 (by omega)).mono ?_
  rintro e w3 ⟨rfl, hR3, hM3, hS3⟩
  have HR3 := Lib.hid hR3
  have HM3 : Hid (Moved w w3 (· = g)) := HM2x.out.trans hM3 (fun i _ h => h)
  have hk3 : Blk w3 w.heap.size 26 #[.int .i64 0, .int .i64 0, .string ⟨#[]⟩, .slice none 0 0] := (hM3.block w.heap.size (by rw [size_alloc]; omega) (by omega)).trans HK2x.out
  have hx3 : Blk w3 (w.heap.size + 1) 26 #[.int .i64 2, .int .i64 0, .string ⟨#[]⟩, .slice none 0 0] := (hM3.block (w.heap.size + 1) (by rw [size_alloc]; omega) (by omega)).trans HX2.out
  have HK3 := Lib.hid hk3
  have HX3 := Lib.hid hx3
  have hs3 : w3.heap.size = w.heap.size + 2 := by rw [hS3, size_alloc]; omega
  obtain ⟨A, n, cap, hk, hB, hx1, hx2⟩ := hR3
  have h3c2 : w3.cell? ⟨g, 2, none⟩ = some _ := hk.cell 2
  have h30 := hk3.c0
  have h31 := hk3.c1
  have h32 := hk3.c2
  have h33 := hk3.c3
  have h3f0 := hk3.frozen 0
  have h3f1 := hk3.frozen 1
  have h3f2 := hk3.frozen 2
  have h3f3 := hk3.frozen 3
  have h3x0 := hx3.c0
  have h3x1 := hx3.c1
  have h3x2 := hx3.c2
  have h3x3 := hx3.c3
  have h3g1 := hx3.frozen 1
  have h3g2 := hx3.frozen 2
  clear hM3 hS3 hk3 hx3 hk hB hx1 hx2
  rw [HXX.out]
  go_wp2_with fail
  refine (cut_ok _ g X (bs.drop 4) (L - 1) HR3.out HHN.out.2).mono ?_
  rintro e w4 ⟨A5, cap5, rfl, hq1, hq2, hB5, hR4, hM4, hS4⟩
  have HR4 := Lib.hid hR4
  have HM4 : Hid (Moved w w4 (· = g)) := HM3.out.trans hM4 (fun i _ h => h)
  have hk4 : Blk w4 w.heap.size 26 #[.int .i64 0, .int .i64 0, .string ⟨#[]⟩, .slice none 0 0] := (hM4.block w.heap.size (by omega) (by omega)).trans HK3.out
  have hx4 : Blk w4 (w.heap.size + 1) 26 #[.int .i64 2, .int .i64 0, .string ⟨#[]⟩, .slice none 0 0] := (hM4.block (w.heap.size + 1) (by omega) (by omega)).trans HX3.out
  have HK4 := Lib.hid hk4
  have HX4 := Lib.hid hx4
  have hs4 : w4.heap.size = w.heap.size + 2 := by omega
  obtain ⟨A4, n4, cap4, hk, hB', hx1, hx2⟩ := hR4
  have h4c2 : w4.cell? ⟨g, 2, none⟩ = some _ := hk.cell 2
  have h40 := hk4.c0
  have h41 := hk4.c1
  have h42 := hk4.c2
  have h43 := hk4.c3
  have h4f0 := hk4.frozen 0
  have h4f1 := hk4.frozen 1
  have h4f2 := hk4.frozen 2
  have h4f3 := hk4.frozen 3
  have h4x0 := hx4.c0
  have h4x1 := hx4.c1
  have h4x2 := hx4.c2
  have h4x3 := hx4.c3
  have h4g1 := hx4.frozen 1
  have h4g2 := hx4.frozen 2
  have hcv : (convert 22 9 (.slice A5 X cap5)).run Try.prog w4 = .ok (.string ⟨((bs.drop 4).take X).toArray⟩) w4 := conv_byt hB5
  clear hB5
  have HCV := Lib.hid hcv
  clear hM4 hS4 hk4 hx4 hk hB' hx1 hx2
  go_wp2_with fail
  exact bodyPost_ret (res_cell rfl (Blk.put4 (HK4.out.far (by show w.heap.size ≠ w.heap.size + 1; omega) _)) rfl) rfl ⟨.mk 2 0 ⟨((bs.drop 4).take X).toArray⟩ [], none, 0, rfl, at_leaf _ _ _ _ _, (HM4.out.setCell (p := ⟨w.heap.size + 1, 2, none⟩) (fun h => absurd h (by show ¬ (w.heap.size + 1 < w.heap.size); omega)) _).put4_, .inl ⟨(bs.drop 4).drop X, HPZ.out, by have e : ∀ s, L - ((Tree.mk 2 0 s []).count : Nat) = L - 1 := fun _ => rfl; rw [e]; exact ((HR4.out.keep fun i hi => Below.heap_setCell w4 ⟨w.heap.size + 1, 2, none⟩ _ i (by show i ≠ w.heap.size + 1; omega)).put4_ hg)⟩⟩
end Go.Proofs.Ytkmikpmbnfcbpaa
