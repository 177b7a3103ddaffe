/- ItemTypes: the walk. -/
import Derived.Test.YtkmikpmbnfcbpaaHb
namespace Go.Proofs.Ytkmikpmbnfcbpaa
open Go.RowKit Go.Lib
set_option linter.unusedVariables false
open Tree Anyv

theorem cell_set4 {W : World} {g k : Nat} {a b c d : Value} (h : k ≠ g) (o : Nat) : ((((W.setCell ⟨g, 0, none⟩ a).setCell ⟨g, 1, none⟩ b).setCell ⟨g, 2, none⟩ c).setCell ⟨g, 3, none⟩ d).cell? ⟨k, o, none⟩ = W.cell? ⟨k, o, none⟩ := World.cell?_of_block (w := W) (a := ⟨k, o, none⟩) (put4_block h)
theorem nums_alloc {w : World} {a : Option Addr} {n : Nat} {zs : List Int} (h : Nums w w.heap.size a n zs) (o : Obj) : Nums (w.alloc o) (w.alloc o).heap.size a n zs := by
  have h1 := h.below ((Below.refl _ _).alloc (Nat.le_refl _) o)
  refine ⟨h1.1, ?_⟩
  rcases h1.2 with h0 | ⟨b, off, e, hb, hc⟩
  · exact .inl h0
  · exact .inr ⟨b, off, e, by simp; omega, hc⟩
theorem lies_new_at {w : World} {g : Nat} (hg : g = w.heap.size) {xs : List Value} {l : List Anyv} (h : RowA (w.alloc (.cells xs.toArray 20)) (· < (w.alloc (.cells xs.toArray 20)).heap.size) l xs) (hn : xs.length = l.length) (hm : l.length ≤ 9223372036854775807) :
    Lies (w.alloc (.cells xs.toArray 20)) (· < (w.alloc (.cells xs.toArray 20)).heap.size) (.lst l) (.iface 59 (.slice (some ⟨g, 0, none⟩) l.length l.length)) := by subst hg; exact lies_new h hn hm
theorem row3 {w : World} {K : Nat → Prop} {A B C : Anyv} {a b c : Value} (h1 : Lies w K A a) (h2 : Lies w K B b) (h3 : Lies w K C c) : RowA w K [A, B, C] [a, b, c] := ⟨a, [b, c], rfl, h1, b, [c], rfl, h2, c, [], rfl, h3, rfl⟩
theorem row2 {w : World} {K : Nat → Prop} {A B : Anyv} {a b : Value} (h1 : Lies w K A a) (h2 : Lies w K B b) : RowA w K [A, B] [a, b] := ⟨a, [b], rfl, h1, b, [], rfl, h2, rfl⟩
theorem lies_alloc {w : World} {t : Anyv} {v : Value} (h : Lies w (· < w.heap.size) t v) (o : Obj) : Lies (w.alloc o) (· < (w.alloc o).heap.size) t v := (h.below ((Below.refl _ _).alloc (Nat.le_refl _) _)).more (by simp)
theorem lies_num {w : World} {K : Nat → Prop} (n : Int) : Lies w K (.num n) (.iface 3 (.int .i64 n)) := by simp only [Lies]
theorem lies_str {w : World} {K : Nat → Prop} (s : ByteArray) : Lies w K (.str s) (.iface 9 (.string s)) := by simp only [Lies]

set_option maxHeartbeats 8000000 in
theorem walk_itemTypes (a0 : Int) (a1 : Int) (a2 : ByteArray) (w0 : (Lit.int .u8 a0).wf = true) (w1 : (Lit.int .i64 a1).wf = true) (w2 : a2.size ≤ maxLen) (w : World) :
    Calls Try.prog 10 #[.int .u8 a0, .int .i64 a1, .string a2] w fun e w' => e = .returned (.bool true) ∧ Below w.heap.size w w' := by
  have hb0 := bounds_u8 w0
  obtain ⟨m, rfl⟩ : ∃ m : Nat, a0 = (m : Int) := ⟨a0.toNat, by omega⟩
  have hm : m ≤ 255 := by omega
  obtain ⟨f, hf⟩ : ∃ f : Bool, f = decide (0 < a1) := ⟨_, rfl⟩
  have HF := Lib.hid hf
  have HKN : Hid (∀ W, Calls Try.prog 12 #[] W (Ret1 W (.bool true))) := fun W => known12 W
  obtain ⟨k, hk⟩ : ∃ k, m % 30 = k := ⟨_, rfl⟩
  have hk30 : k < 30 := by rw [← hk]; exact Nat.mod_lt _ (by omega)
  have hkI : ((m : Int) % 30) = (k : Int) := by omega
  have HK := Lib.hid hkI
  clear hb0 w0 w1 hk hkI hf
  go_enter Try.func10, Try.ntmps10
  go_wp2_with fail
  rw [HK.out, ← HF.out]
  go_loopw [7, 8, 10] (fun x y i wr => ∃ (q : Nat) (u v : Value), q ≤ k ∧ i = .int .i64 (q : Nat) ∧ u = x ∧ v = y ∧ Lies wr (· < wr.heap.size) (badA a1 a2 f q) u ∧ Lies wr (· < wr.heap.size) (goodA a1 a2 q) v ∧ Below w.heap.size w wr) (fun _ _ i _ => k - (intOf i).toNat)
  case atStart => exact ⟨0, _, _, Nat.zero_le _, rfl, rfl, rfl, by simp only [badA, Lies], by simp only [goodA, Lies], Below.refl _ _⟩
  case round =>
    obtain ⟨q, u, v, hq, rfl, rfl, rfl, hU, hV, hbl⟩ := hrel
    have HU := Lib.hid hU
    have HV := Lib.hid hV
    have HW := Lib.hid hbl
    have hsz := hbl.size
    obtain ⟨T1, x1, rfl⟩ := hU.iface
    obtain ⟨T2, x2, rfl⟩ := hV.iface
    clear hU hV hbl
    by_cases hlt : q < k
    · have HX : Hid (∀ W, W = (wr.alloc (.cells #[.iface 3 (.int .i64 a1), .iface 9 (.string a2), .iface T1 x1] 20)).alloc (.cells #[.iface 9 (.string a2), .iface T2 x2] 20) →
          Lies W (· < W.heap.size) (badA a1 a2 f (q + 1)) (.iface 59 (.slice (some ⟨wr.heap.size, 0, none⟩) 3 3)) ∧ Lies W (· < W.heap.size) (goodA a1 a2 (q + 1)) (.iface 59 (.slice (some ⟨wr.heap.size + 1, 0, none⟩) 2 2)) ∧ Below w.heap.size w W) := fun W e => by
        subst e
        refine ⟨lies_alloc (lies_new (xs := [.iface 3 (.int .i64 a1), .iface 9 (.string a2), .iface T1 x1]) (row3 (lies_num _) (lies_str _) (lies_alloc HU.out _)) rfl (by simp)) _, ?_, (HW.out.alloc hsz _).alloc (by simp; omega) _⟩
        exact lies_new_at (w := wr.alloc (.cells #[.iface 3 (.int .i64 a1), .iface 9 (.string a2), .iface T1 x1] 20)) (by simp) (xs := [.iface 9 (.string a2), .iface T2 x2]) (row2 (lies_str _) (lies_alloc (lies_alloc HV.out _) _)) rfl (by simp)
      go_wp2_with fail
      go_roundw
      case rel => exact ⟨q + 1, _, _, by omega, by go_num, rfl, rfl, (HX.out _ rfl).1, (HX.out _ rfl).2.1, (HX.out _ rfl).2.2⟩
      case measure => simp [intOf]; omega
    · obtain rfl : q = k := by omega
      have hof := of21_types (badA a1 a2 f q) (.iface T1 x1) wr HU.out (bad_ty a1 a2 f q 0 (by omega))
      have HOF := Lib.hid hof
      clear hof
      go_wp2_with fail
      refine HOF.out.mono ?_
      rintro e w3 ⟨rfl, hb3⟩
      have HB3 : Hid (Below w.heap.size w w3) := HW.out.trans (hb3.mono hsz)
      have HV3 : Hid (Lies w3 (· < w3.heap.size) (goodA a1 a2 q) (.iface T2 x2)) := (HV.out.below hb3).more hb3.size
      clear hb3
      go_wp2_with fail
      generalize hW4 : World.alloc w3 _ = w4
      have HB4 : Hid (Below w.heap.size w w4) := by unfold Hid; rw [← hW4]; exact HB3.out.alloc HB3.out.size _
      have HV4 : Hid (Lies w4 (· < w4.heap.size) (goodA a1 a2 q) (.iface T2 x2)) := by unfold Hid; rw [← hW4]; exact lies_alloc HV3.out _
      clear hW4
      by_cases h20 : 20 ≤ q
      · have h20' : (20 : Int) ≤ (q : Int) := by omega
        refine (of21_arg (goodA a1 a2 q) (.iface T2 x2) w4 HV4.out (by rw [good_size]; omega) (good_ty a1 a2 q 0) (fun h => by have h1 := good_deep a1 a2 20 q 0 rfl h20; have h2 := h.2.1; omega)).mono ?_
        rintro e w5 ⟨rfl, hb5⟩
        have HB5 : Hid (Below w.heap.size w w5) := HB4.out.trans (hb5.mono HB4.out.size)
        clear hb5
        go_wp2_with fail
        refine (HKN.out _).mono ?_
        rintro e w6 ⟨rfl, hb6⟩
        have HB6 : Hid (Below w.heap.size w w6) := (HB5.out.alloc HB5.out.size _).trans (hb6.mono (by have := HB5.out.size; simp; omega))
        clear hb6
        go_wp2_with fail
        go_ret
        exact ⟨rfl, HB6.out⟩
      · have h20' : ¬ ((20 : Int) ≤ (q : Int)) := by omega
        have HFIT : Hid (Fits (goodT a1 a2 q) 20) := ⟨goodT_right a1 a2 q, by rw [goodT_depth]; omega, by rw [goodT_count]; omega⟩
        have hok := of21_ok (goodA a1 a2 q) (.iface T2 x2) w4 HV4.out (by rw [good_size]; omega) (good_ty a1 a2 q 0) (by rw [good_of a1 a2 q 0 (by omega)]; exact HFIT.out)
        rw [good_of a1 a2 q 0 (by omega)] at hok
        obtain ⟨gt, hgt⟩ : ∃ gt, goodT a1 a2 q = gt := ⟨_, rfl⟩
        have HAT := Lib.hid (goodT_at a1 a2 q)
        have HCN : Hid (gt.count ≤ 1000000000) := by unfold Hid; rw [← hgt, goodT_count]; omega
        rw [hgt] at hok HAT HFIT
        unfold val at hok
        refine hok.mono ?_
        rintro e w5 ⟨a5, c5, rfl, hA5, hb5⟩
        have HB5 : Hid (Below w.heap.size w w5) := HB4.out.trans (hb5.mono HB4.out.size)
        have HA5 : Hid (At w5 (· < w5.heap.size) gt a5 c5) := hA5.imp fun b hb => hb.2
        clear hb5 hA5 hok hgt
        go_wp2_with fail
        generalize hW6 : World.alloc w5 _ = w6
        have hk6 : Blk w6 w5.heap.size 26 #[.int .i64 gt.kind, .int .i64 gt.num, .string gt.text, .slice a5 gt.list.length c5] := by rw [← hW6]; exact Blk.new w5 26 _
        have HB6 : Hid (Below w.heap.size w w6) := by unfold Hid; rw [← hW6]; exact HB5.out.alloc HB5.out.size _
        have HA6 : Hid (At w6 (· < w6.heap.size) gt a5 c5) := by unfold Hid; rw [← hW6]; exact at_alloc HA5.out _
        have hs6 : w6.heap.size = w5.heap.size + 1 := by rw [← hW6]; simp
        have HK6 := Lib.hid hk6
        have hc06 := hk6.c0
        have hc16 := hk6.c1
        have hc26 := hk6.c2
        have hc36 := hk6.c3
        clear hW6 hk6
        have hg56 : w5.heap.size < w6.heap.size := by omega
        have H33 : Hid (∀ W, Below w6.heap.size w6 W → Calls Try.prog 33 #[.int .i64 q] W fun e w' => ∃ a c, e = .returned (.slice a q c) ∧ q ≤ c ∧ c ≤ 9223372036854775807 ∧ Nums w' w'.heap.size a q (List.replicate q 1) ∧ Below W.heap.size W w') := fun W hb => ones33 q W (by omega)
        have H31 : Hid (∀ ap cp W, Below w6.heap.size w6 W → Nums W W.heap.size ap q (List.replicate q 1) → Calls Try.prog 31 #[.agg #[.int .i64 gt.kind, .int .i64 gt.num, .string gt.text, .slice a5 gt.list.length c5], .slice ap q cp] W fun e w' => ∃ a c, e = .returned (.tuple #[.agg #[.int .i64 1, .int .i64 a1, .string ⟨#[]⟩, .slice a 0 c], .int .i64 0]) ∧ At w' (· < w'.heap.size) (.mk 1 a1 ⟨#[]⟩ []) a c ∧ Below W.heap.size W w') := fun ap cp W hb hN => at31_calls gt a5 c5 ap q cp _ W _ (at_later HA6.out hb) HCN.out hN (by omega) (.inl ⟨HFIT.out, HAT.out.symm⟩)
        have HRS : Hid (∀ a c W, c ≤ 9223372036854775807 → Calls Try.prog 15 #[.agg #[.int .i64 1, .int .i64 a1, .string ⟨#[]⟩, .slice a 0 c], .agg #[.int .i64 1, .int .i64 a1, .string ⟨#[]⟩, .slice none 0 0]] W (RetQ W (Tree.mk 1 a1 ⟨#[]⟩ [] = Tree.mk 1 a1 ⟨#[]⟩ []))) := fun a c W h => refSame15_calls 5 (.mk 1 a1 ⟨#[]⟩ []) (.mk 1 a1 ⟨#[]⟩ []) a none c 0 W (by simp [count, countL]) (by simp only [At]; exact ⟨Nat.zero_le _, h, .inl (by trivial)⟩) (by simp only [At]; exact ⟨Nat.le_refl _, by omega, .inl (by trivial)⟩)
        go_wp2_with fail
        have hne6 : ¬ w5.heap.size = w6.heap.size := by omega
        clear hs6
        go_region_held3 (fun w' => w'.cell? ⟨w5.heap.size, 0, none⟩ = some (.int .i64 gt.kind) ∧ w'.cell? ⟨w5.heap.size, 1, none⟩ = some (.int .i64 gt.num) ∧ w'.cell? ⟨w5.heap.size, 2, none⟩ = some (.string gt.text) ∧ w'.cell? ⟨w5.heap.size, 3, none⟩ = some (.slice a5 gt.list.length c5)) (first | (with_reducible assumption) | go_keep | (with_reducible refine ⟨(cell_set4 ?_ _).trans hS8.1, (cell_set4 ?_ _).trans hS8.2.1, (cell_set4 ?_ _).trans hS8.2.2.1, (cell_set4 ?_ _).trans hS8.2.2.2⟩ <;> omega)) (first
          | (go_at_call 33
             refine (H33.out _ ?_).mono ?_
             first | exact (Below.refl w6.heap.size w6).drew | exact ((Below.refl w6.heap.size w6).alloc (Nat.le_refl _) _).drew
             rintro e w7 ⟨a7, c7, rfl, hc71, hc72, hN7, hb7'⟩
             have hb7 : Below w6.heap.size w6 w7 := by first | exact (Below.refl w6.heap.size w6).drew.trans hb7' | exact ((Below.refl w6.heap.size w6).alloc (Nat.le_refl _) _).drew.trans (hb7'.mono (by simp))
             try have hk7t := Blk.below (B := w6.heap.size + 1) (Blk.new w6 26 #[.int .i64 0, .int .i64 0, .string ⟨#[]⟩, .slice none 0 0]) ((Below.refl (w6.heap.size + 1) (w6.alloc (.cells #[.int .i64 0, .int .i64 0, .string ⟨#[]⟩, .slice none 0 0] 26))).drew.trans (Below.mono hb7' (by simp))) (by omega)
             try have HT7 := Lib.hid hk7t
             have hs7 := hb7.size
             have hk7 := held_of HK6.out hb7
             have hS7 := hk7.2
             have hg57 : w5.heap.size < w7.heap.size := by omega
             have hne7 : ¬ w5.heap.size = w7.heap.size := by omega
             have HB7 := Lib.hid hb7
             have HN7 := Lib.hid hN7
             clear hb7' hb7 hN7 hk7
             try clear hk7t)
          | (go_at_call 31
             refine (H31.out _ _ _ ?_ ?_).mono ?_
             first | exact HB7.out | exact HB7.out.alloc hs7 _
             first | exact HN7.out | exact nums_alloc HN7.out _
             rintro e w8 ⟨a8, c8, rfl, hA8, hb8'⟩
             have hb8 : Below w6.heap.size w6 w8 := by first | exact HB7.out.trans (hb8'.mono hs7) | exact (HB7.out.alloc hs7 _).trans (hb8'.mono (by simp; omega))
             try have hk8t := Blk.below HT7.out hb8' HT7.out.lt
             try have hk8t := Blk.below (Blk.new w7 26 #[.int .i64 0, .int .i64 0, .string ⟨#[]⟩, .slice none 0 0]) hb8' (by simp)
             try have HT8 := Lib.hid hk8t
             try have hd0 := hk8t.c0
             try have hd1 := hk8t.c1
             try have hd2 := hk8t.c2
             try have hd3 := hk8t.c3
             try have he0 := hk8t.frozen 0
             try have he1 := hk8t.frozen 1
             try have he2 := hk8t.frozen 2
             try have he3 := hk8t.frozen 3
             have hs8 := hb8.size
             have hk8 := held_of HK6.out hb8
             have hS8 := hk8.2
             have hg58 : w5.heap.size < w8.heap.size := by omega
             have hne8 : ¬ w5.heap.size = w8.heap.size := by omega
             have hc8 : c8 ≤ 9223372036854775807 := by simp only [At] at hA8; exact hA8.2.1
             have HB8 := Lib.hid hb8
             clear hb8' hb8 hA8 hk8
             try clear hk8t))
        all_goals go_wp2_with fail
        all_goals
          have HW8 : Below w.heap.size w w8 := HB6.out.trans (HB8.out.mono HB6.out.size)
          have hw6 := HB6.out.size
          have hw7 := HB7.out.size
          refine (HRS.out a8 c8 _ hc8).mono ?_
          rintro e w9 ⟨br, rfl, hbr, hb9⟩
          have hbt : br = true := hbr.2 (by trivial)
          subst hbt
          have HB9 : Hid (Below w.heap.size w w9) := by
            have hw8 := HW8.size
            first
              | exact (HW8.alloc HW8.size _).trans (hb9.mono (by simp; omega))
              | exact (Below.put4_ HW8 (by omega)).trans (Below.mono hb9 (by simp [World.setCell]; omega))
          clear hbr hb9 HW8
          go_wp2_with fail
          refine (HKN.out _).mono ?_
          rintro e w10 ⟨rfl, hb10⟩
          have HB10 : Hid (Below w.heap.size w w10) := HB9.out.trans (hb10.mono HB9.out.size)
          clear hb10
          go_wp2_with fail
          go_ret
          exact ⟨rfl, HB10.out⟩
end Go.Proofs.Ytkmikpmbnfcbpaa
