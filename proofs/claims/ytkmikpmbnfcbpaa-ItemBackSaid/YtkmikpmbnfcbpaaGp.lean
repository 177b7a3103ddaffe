/- The contracts of Lst and of known. -/
import Derived.Test.YtkmikpmbnfcbpaaGo
namespace Go.Proofs.Ytkmikpmbnfcbpaa
open Go.RowKit Go.Lib
set_option linter.unusedVariables false
open Tree Anyv

theorem at_reads {w : World} {B : Nat} {k n : Int} {s : ByteArray} {l : List Tree} {a : Option Addr} {c : Nat} (h : At w (· < B) (.mk k n s l) a c) : ∃ xs, RowL w (· < B) l xs ∧ Reads w B 4 a l.length xs := by
  simp only [At] at h
  rcases h.2.2 with rfl | ⟨b, off, rfl, hb, hL⟩
  · exact ⟨[], rfl, by simp, fun h => by simp at h⟩
  · obtain ⟨xs, h1, h2⟩ := AtL.row l b off hL
    refine ⟨xs, h1, RowL.len l xs h1, fun _ => ⟨_, rfl, hb, fun j u hu => ?_⟩⟩
    rw [add_plain]; exact h2 j u hu

theorem row_form {w : World} {base : Nat} {v : Value} {l : List Tree} {xs : List Value} {K : Nat → Prop} (ho : w.ownsRow base 26 4 v l.length xs) (hr : RowL w K l xs) (k n : Int) (s : ByteArray) :
    ∃ a c, v = .slice a l.length c ∧ l.length ≤ c ∧ c ≤ 9223372036854775807 ∧ At w (fun b => K b ∨ (base ≤ b ∧ b < w.heap.size)) (.mk k n s l) a c := by
  rcases ho.2 with ⟨rfl, h0⟩ | ⟨g, cap, cur, rfl, hb, hg, hn, hm, hr'⟩
  · exact ⟨none, 0, by rw [h0], by omega, by omega, by simp only [At]; exact ⟨by omega, by omega, .inl (List.length_eq_zero_iff.1 h0)⟩⟩
  · have hm' : cap ≤ 9223372036854775807 := by unfold maxLen at hm; omega
    refine ⟨_, cap, rfl, hn, hm', ?_⟩
    simp only [At]
    refine ⟨hn, hm', .inr ⟨g, 0, rfl, .inr ⟨hb, (Array.getElem?_eq_some_iff.1 hg).1⟩, ?_⟩⟩
    refine RowL.atL l xs g 0 (RowL.keep (fun _ _ => rfl) (fun b hB => .inl hB) _ _ hr) fun j u hu => ?_
    have := World.ownsRow.cells ho (g := g) rfl j u hu
    rwa [add_plain] at this

set_option maxHeartbeats 1000000 in
theorem lst34 (l : List Tree) (a : Option Addr) (c : Nat) (w : World) (k0 n0 : Int) (s0 : ByteArray) (hA : At w (· < w.heap.size) (.mk k0 n0 s0 l) a c) (hn : l.length ≤ 1000000000) :
    Calls Try.prog 34 #[.slice a l.length c] w fun e w' => ∃ a' c', e = .returned (val (.mk 3 0 ⟨#[]⟩ l) a' c') ∧ At w' (fun b => b < w'.heap.size) (.mk 3 0 ⟨#[]⟩ l) a' c' ∧ Below w.heap.size w w' := by
  obtain ⟨i0, hi0, hz0, hz1, hz2⟩ := info_parts item_info
  obtain ⟨xs, hr, hx⟩ := at_reads hA
  have HR := Lib.hid hr
  have HX := Lib.hid hx
  obtain ⟨n, hln⟩ : ∃ n, l.length = n := ⟨_, rfl⟩
  have HLN := Lib.hid hln
  rw [hln] at HX hn ⊢
  clear hr hx hA hln
  go_enter Try.func34, Try.ntmps34
  go_wp2_with (first
    | (at_builtin
       refine wpList_append_any _ rfl (.const (.slice none 0 0)) (.tmp 3) _ rfl (w.heap.size + 1) 26 i0 _ 4 56 Try.underlying24 hi0 hz0 hz1 hz2 rfl (by omega) (.slice none 0 0) 0 [] rfl
         (World.ownsRow_nil _ _ _ _) w.heap.size a n c xs rfl (HX.out.alloc (Nat.le_refl _) _) (RowL.one _ _ HR.out) (by simp only [maxLen]; omega) (by omega) (by simp) ?_
       intro v2 w2 hown2 hg2 hat2
       have hbk := (Blk.new w 26 #[.int .i64 0, .int .i64 0, .string ⟨#[]⟩, .slice none 0 0]).grown hg2 (by simp [Value.ownBlock])
       have HB : Hid (Below w.heap.size w w2) := ((Below.refl _ _).alloc (Nat.le_refl _) _).grown hg2 (by simp) (by simp [Value.ownBlock])
       have hrow : RowL w2 (· < w.heap.size) l xs := RowL.keep (fun b hb => HB.out.block b hb) (fun b hb => hb) _ _ HR.out
       obtain ⟨a2, c2, hv2, _, _, hA2⟩ := row_form (by rw [HLN.out]; simpa using hown2) hrow 3 0 ⟨#[]⟩
       rw [HLN.out] at hv2
       subst hv2
       have HA2 := Lib.hid hA2
       have HBK := Lib.hid hbk
       have hc0 := hbk.c0
       have hc1 := hbk.c1
       have hc2 := hbk.c2
       have hc3 := hbk.c3
       have hf0 := hbk.frozen 0
       have hf1 := hbk.frozen 1
       have hf2 := hbk.frozen 2
       have hf3 := hbk.frozen 3
       clear hown2 hg2 hat2 hbk hA2))
  refine bodyPost_ret (res_cell rfl (Blk.put4 HBK.out) rfl) rfl ⟨a2, c2, by simp only [val, kind, Tree.num, text, list]; rw [HLN.out], ?_, Below.put4_ HB.out (Nat.le_refl _)⟩
  refine (HA2.out.keep (w' := put4 w2 w.heap.size _ _ _ _) fun b hb => put4_block (by rcases hb with h | h <;> omega)).imp fun b hb => ?_
  have h2 : b < w2.heap.size := by have := HB.out.size; rcases hb with h | h <;> omega
  exact Nat.lt_of_lt_of_eq h2 put4_size.symm

/-- The value of the chapter's example. -/
def five : Tree := .mk 3 0 ⟨#[]⟩ [.mk 1 5 ⟨#[]⟩ []]
theorem five_fits : Fits five 20 := by
  unfold five
  simp [Fits, Right, RightL, fields, kind, Tree.num, text, list, depth, depthL, count, countL]
theorem five_enc : enc five = [3, 0, 0, 0, 1, 1, 0, 0, 0, 0, 0, 0, 0, 5] := by
  simp [five, enc, encL, be, u64N]
theorem nums_own {w : World} {base n : Nat} {v : Value} {zs : List Int} (h : w.ownsRow base 3 1 v n (zs.map (Value.int .i64))) (hn : zs.length = n) : ∃ a c, v = .slice a n c ∧ Nums w w.heap.size a n zs := by
  rcases h.2 with ⟨rfl, h0⟩ | ⟨g, cap, cur, rfl, hb, hg, hn', hm, hr⟩
  · exact ⟨none, 0, by rw [h0], hn, .inl h0⟩
  · refine ⟨_, cap, rfl, hn, .inr ⟨g, 0, rfl, (Array.getElem?_eq_some_iff.1 hg).1, fun i hi => ?_⟩⟩
    have := World.ownsRow.cells h (g := g) rfl i (.int .i64 (zs.getD i 0)) (by rw [List.getElem?_map, List.getElem?_eq_getElem (by omega), getD_eq (by omega)]; rfl)
    rwa [add_plain] at this
theorem Nums.below {w w' : World} {B n : Nat} {a : Option Addr} {zs : List Int} (h : Nums w B a n zs) (hb : Below B w w') : Nums w' B a n zs := by
  refine ⟨h.1, ?_⟩
  rcases h.2 with h0 | ⟨b, off, rfl, hbb, hc⟩
  · exact .inl h0
  · exact .inr ⟨b, off, rfl, hbb, fun i hi => (hb.cell (p := ⟨b, off + i, none⟩) hbb).trans (hc i hi)⟩

theorem at_one (w : World) (k n : Int) (s : ByteArray) : At (w.alloc (.cells #[.int .i64 k, .int .i64 n, .string s, .slice none 0 0] 26)) (· < (w.alloc (.cells #[.int .i64 k, .int .i64 n, .string s, .slice none 0 0] 26)).heap.size) (.mk 3 0 ⟨#[]⟩ [.mk k n s []]) (some ⟨w.heap.size, 0, none⟩) 1 := by
  simp only [At, AtL]
  refine ⟨by simp, by omega, .inr ⟨_, _, rfl, by simp, ⟨none, 0, cell_new rfl, cell_new rfl, cell_new rfl, cell_new rfl, ?_⟩, trivial⟩⟩
  exact ⟨Nat.le_refl _, by omega, .inl (by trivial)⟩

set_option maxHeartbeats 4000000 in
theorem known12 (w : World) : Calls Try.prog 12 #[] w (Ret1 w (.bool true)) := by
  have HNUM := Lib.hid (fun W => num35 5 W)
  have HLST := Lib.hid (fun a c W hA => lst34 [.mk 1 5 ⟨#[]⟩ []] a c W 3 0 ⟨#[]⟩ hA (by simp))
  have HENC := Lib.hid (fun a c W hA => encode18_yes five a c W hA five_fits (by rw [five_enc]; simp))
  have HOF := Lib.hid (fun W => of21_types (.flag true) (.iface 4 (.bool true)) W (by simp only [Lies]) (by simp only [Ty]; exact fun h => h))
  have HINT := Lib.hid (fun a c W hA => ints26_yes five a c W hA five_fits rfl (by intro i h; have : i = 0 := by simp [five, list] at h; omega
                                                                                   subst this; rfl))
  unfold val five at HENC HINT
  unfold val at HNUM HLST
  simp only [kind, Tree.num, text, list, List.length_singleton, List.length_nil] at HENC HINT HNUM HLST
  go_enter Try.func12, Try.ntmps12
  go_wp2_with fail
  refine (HNUM.out w).mono ?_
  rintro e w1 ⟨rfl, hb1⟩
  have HB1 := Lib.hid hb1
  clear hb1
  go_wp2_with fail
  refine (HLST.out _ _ _ (at_one w1 1 5 ⟨#[]⟩)).mono ?_
  rintro e w2 ⟨a2, c2, rfl, hA2, hb2⟩
  have HB2 : Hid (Below w.heap.size w w2) := (HB1.out.alloc HB1.out.size _).trans (hb2.mono (by have := HB1.out.size; simp; omega))
  have HA3 : Hid (At (w2.alloc (.cells #[.int .i64 3, .int .i64 0, .string ⟨#[]⟩, .slice a2 1 c2] 26)) (· < (w2.alloc (.cells #[.int .i64 3, .int .i64 0, .string ⟨#[]⟩, .slice a2 1 c2] 26)).heap.size) five a2 c2) := (hA2.below ((Below.refl _ _).alloc (Nat.le_refl _) _)).more (by simp)
  have hs2 := HB2.out.size
  clear hA2 hb2
  go_wp2_with fail
  generalize hW3 : World.alloc w2 _ = w3
  rw [hW3] at HA3
  have hbk : Blk w3 w2.heap.size 26 #[.int .i64 3, .int .i64 0, .string ⟨#[]⟩, .slice a2 1 c2] := by rw [← hW3]; exact Blk.new w2 26 _
  have HB3 : Hid (Below w.heap.size w w3) := by unfold Hid; rw [← hW3]; exact HB2.out.alloc hs2 _
  have hs3 : w3.heap.size = w2.heap.size + 1 := by rw [← hW3]; simp
  have HK3 := Lib.hid hbk
  clear hW3 hbk
  refine (HENC.out a2 c2 w3 HA3.out).mono ?_
  rintro e w4 ⟨v4, rfl, hO4, hb4⟩
  have HB4 : Hid (Below w.heap.size w w4) := HB3.out.trans (hb4.mono HB3.out.size)
  obtain ⟨a4, c4, rfl, _, _, hBy4⟩ := hO4.form_ (n := 14) (by show (enc five).length = 14; rw [five_enc]; rfl)
  have HBY4 := Lib.hid hBy4
  have hk4 := HK3.out.below hb4 (by omega)
  have HK4 := Lib.hid hk4
  have HA4 : Hid (At w4 (· < w4.heap.size) five a2 c2) := (HA3.out.below hb4).more hb4.size
  have hc0 := hk4.c0
  have hc1 := hk4.c1
  have hc2 := hk4.c2
  have hc3 := hk4.c3
  have hs4 := hb4.size
  clear hO4 hb4 hBy4 hk4
  go_wp2_with fail
  refine (HOF.out w4).mono ?_
  rintro e w5 ⟨rfl, hb5⟩
  have HB5 : Hid (Below w.heap.size w w5) := HB4.out.trans (hb5.mono HB4.out.size)
  have HBY5 : Hid (Byt w5 w5.heap.size a4 14 (enc five)) := (HBY4.out.below hb5).more hb5.size
  have hk5 := HK4.out.below hb5 (by omega)
  have HK5 := Lib.hid hk5
  have HA5 : Hid (At w5 (· < w5.heap.size) five a2 c2) := (HA4.out.below hb5).more hb5.size
  have hs5 := hb5.size
  have hc0 := hk5.c0
  have hc1 := hk5.c1
  have hc2 := hk5.c2
  have hc3 := hk5.c3
  have hg5 : w2.heap.size < w5.heap.size := by omega
  clear hb5 hk5
  go_wp2_with fail
  generalize hW6 : World.alloc w5 _ = w6
  have hb6 : Below w5.heap.size w5 w6 := by rw [← hW6]; exact (Below.refl _ _).alloc (Nat.le_refl _) _
  clear hW6
  have HB6 : Hid (Below w.heap.size w w6) := HB5.out.trans (hb6.mono HB5.out.size)
  have HBY6 : Hid (Byt w6 w6.heap.size a4 14 (enc five)) := (HBY5.out.below hb6).more hb6.size
  have HA6 : Hid (At w6 (· < w6.heap.size) five a2 c2) := (HA5.out.below hb6).more hb6.size
  clear hb6
  refine (HINT.out a2 c2 w6 HA6.out).mono ?_
  rintro e w7 ⟨v7, rfl, hO7, hb7⟩
  obtain ⟨a7, c7, rfl, hN7⟩ := nums_own (zs := [5]) hO7 rfl
  have HB7 : Hid (Below w.heap.size w w7) := HB6.out.trans (hb7.mono HB6.out.size)
  have HBY7 : Hid (Byt w7 w7.heap.size a4 14 (enc five)) := (HBY6.out.below hb7).more hb7.size
  have HN7 := Lib.hid hN7
  clear hO7 hb7 hN7
  have hs7 := HB7.out.size
  go_wp2_with fail
  generalize hW8 : World.alloc w7 _ = w8
  have hb8 : Below w7.heap.size w7 w8 := by rw [← hW8]; exact (Below.refl _ _).alloc (Nat.le_refl _) _
  have hy8 : Byt w8 (w7.heap.size + 1) (some ⟨w7.heap.size, 0, none⟩) 14 (enc five) := by rw [← hW8, five_enc]; exact new_byt w7 [3, 0, 0, 0, 1, 1, 0, 0, 0, 0, 0, 0, 0, 5]
  clear hW8
  have HB8 : Hid (Below w.heap.size w w8) := HB7.out.trans (hb8.mono hs7)
  have HN8 : Hid (Nums w8 w7.heap.size a7 1 [5]) := HN7.out.below hb8
  have hs8 := HB8.out.size
  have hs78 := hb8.size
  refine (same22 w8 w7.heap.size (w7.heap.size + 1) a4 (some ⟨w7.heap.size, 0, none⟩) 14 14 c4 14 (enc five) (enc five) (HBY7.out.below hb8) hy8).mono ?_
  clear hb8 hy8
  rintro e w9 ⟨rfl, rfl⟩
  rw [beq_self_eq_true]
  go_wp2_with fail
  generalize hW10 : World.alloc w8 _ = w10
  have HB10 : Hid (Below w.heap.size w w10) := by unfold Hid; rw [← hW10]; exact HB8.out.alloc hs8 _
  have hn10 : Nums w10 w7.heap.size a7 1 [5] := by rw [← hW10]; exact HN8.out.below ((Below.refl _ _).alloc (by omega) _)
  have hm10 : Nums w10 w10.heap.size (some ⟨w8.heap.size, 0, none⟩) 1 [5] := by
    rw [← hW10]
    refine ⟨rfl, .inr ⟨_, _, rfl, by simp, fun i hi => ?_⟩⟩
    obtain rfl : i = 0 := by omega
    exact cell_new rfl
  clear hW10
  refine (ints37 w10 _ _ a7 (some ⟨w8.heap.size, 0, none⟩) 1 c7 1 [5] hn10 hm10 (by omega)).mono ?_
  clear hn10 hm10
  rintro e w11 ⟨rfl, k, rfl⟩
  go_wp2_with fail
  go_ret
  exact ⟨rfl, below_drewN HB10.out k⟩
end Go.Proofs.Ytkmikpmbnfcbpaa
