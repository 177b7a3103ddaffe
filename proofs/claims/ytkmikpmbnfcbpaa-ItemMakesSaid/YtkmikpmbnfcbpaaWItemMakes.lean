/- ItemMakes: the walk. -/
import Derived.Test.YtkmikpmbnfcbpaaHc
namespace Go.Proofs.Ytkmikpmbnfcbpaa
open Go.RowKit Go.Lib
set_option linter.unusedVariables false
open Tree Anyv

theorem at_ne_later {W W' : World} {g : Nat} {t : Tree} {a : Option Addr} {c : Nat} (h : At W (fun b => b < W.heap.size ∧ b ≠ g) t a c) (hb : Below W.heap.size W W') : At W' (fun b => b < W'.heap.size ∧ b ≠ g) t a c :=
  (h.keep fun b hB => hb.block b hB.1).imp fun b hB => ⟨by have := hb.size; omega, hB.2⟩
theorem nums_two_at {w : World} {g : Nat} (hg : g = w.heap.size) (x y : Int) : Nums (w.alloc (.cells #[.int .i64 x, .int .i64 y] 3)) (w.alloc (.cells #[.int .i64 x, .int .i64 y] 3)).heap.size (some ⟨g, 0, none⟩) 2 [x, y] := by subst hg; exact nums_two w x y
theorem nums_one_at {w : World} {g : Nat} (hg : g = w.heap.size) (x : Int) : Nums (w.alloc (.cells #[.int .i64 x] 3)) (w.alloc (.cells #[.int .i64 x] 3)).heap.size (some ⟨g, 0, none⟩) 1 [x] := by subst hg; exact nums_one w x

set_option maxHeartbeats 8000000 in
theorem walk_itemMakes (a0 : Int) (a1 : ByteArray) (a2 : Option Addr) (len2 cap2 : Nat) (z2 : List Int) (w : World) (w0 : (Lit.int .i64 a0).wf = true) (w1 : a1.size ≤ maxLen) (w2 : IsRow .i64 w a2 len2 cap2 z2) :
    Calls Try.prog 11 #[.int .i64 a0, .string a1, .slice a2 len2 cap2] w fun e w' => e = .returned (.bool true) ∧ Below w.heap.size w w' := by
  obtain ⟨i0, hi0, hz0, hz1, hz2⟩ := info_parts item_info
  obtain ⟨hZ, hn1, hn2⟩ := w2.nums
  generalize z2.take len2 = zs at hZ
  have HZ := Lib.hid hZ
  have HL := Lib.hid hZ.1
  have HKN : Hid (∀ W, Calls Try.prog 12 #[] W (Ret1 W (.bool true))) := fun W => known12 W
  clear w0 w1 w2 hZ
  by_cases hs : 300 < a1.size
  · have hs' : (300 : Int) < (a1.size : Int) := by omega
    go_enter Try.func11, Try.ntmps11
    go_wp2_with fail
    refine (HKN.out _).mono ?_
    rintro e w3 ⟨rfl, hb3⟩
    go_wp2_with fail
    go_ret
    exact ⟨rfl, hb3⟩
  have hs' : ¬ ((300 : Int) < (a1.size : Int)) := by omega
  by_cases hp : 60 < len2
  · have hp' : (60 : Int) < (len2 : Int) := by omega
    go_enter Try.func11, Try.ntmps11
    go_wp2_with fail
    refine (HKN.out _).mono ?_
    rintro e w3 ⟨rfl, hb3⟩
    go_wp2_with fail
    go_ret
    exact ⟨rfl, hb3⟩
  have hp' : ¬ ((60 : Int) < (len2 : Int)) := by omega
  have hlen : len2 ≤ 60 := by omega
  have HNUM : Hid (∀ n W, Calls Try.prog 35 #[.int .i64 n] W (Ret1 W (.agg #[.int .i64 1, .int .i64 n, .string ⟨#[]⟩, .slice none 0 0]))) := fun n W => num35 n W
  have HSTR : Hid (∀ W, Calls Try.prog 36 #[.string a1] W (Ret1 W (.agg #[.int .i64 2, .int .i64 0, .string a1, .slice none 0 0]))) := fun W => str36 a1 W
  have HLST : Hid (∀ (l : List Tree) n a c W, l.length = n → n ≤ 1000 → At W (· < W.heap.size) (.mk 3 0 ⟨#[]⟩ l) a c → Calls Try.prog 34 #[.slice a n c] W fun e w' => ∃ a' c', e = .returned (.agg #[.int .i64 3, .int .i64 0, .string ⟨#[]⟩, .slice a' n c']) ∧ At w' (fun b => b < w'.heap.size) (.mk 3 0 ⟨#[]⟩ l) a' c' ∧ Below W.heap.size W w') := fun l n a c W hl hn hA => by
    subst hl; exact lst34 l a c W 3 0 ⟨#[]⟩ hA (by omega)
  go_enter Try.func11, Try.ntmps11
  go_wp2_with fail
  refine (HNUM.out _ _).mono ?_
  rintro e w3 ⟨rfl, hb3⟩
  have HB3 := Lib.hid hb3
  clear hb3
  go_wp2_with fail
  refine (HSTR.out _).mono ?_
  rintro e w4 ⟨rfl, hb4⟩
  have HB4 : Hid (Below w.heap.size w w4) := HB3.out.trans (hb4.mono HB3.out.size)
  clear hb4
  go_wp2_with fail
  have h2 := at_two (w := w4) (t := numT a0) (u := strT a1) (at_leaf w4 _ 1 a0 ⟨#[]⟩) (at_leaf w4 _ 2 0 a1)
  have H2 : Hid (At (w4.alloc (.cells #[.int .i64 1, .int .i64 a0, .string ⟨#[]⟩, .slice none 0 0, .int .i64 2, .int .i64 0, .string a1, .slice none 0 0] 26)) (· < (w4.alloc (.cells #[.int .i64 1, .int .i64 a0, .string ⟨#[]⟩, .slice none 0 0, .int .i64 2, .int .i64 0, .string a1, .slice none 0 0] 26)).heap.size) (.mk 3 0 ⟨#[]⟩ [numT a0, strT a1]) (some ⟨w4.heap.size, 0, none⟩) 2) := h2
  clear h2
  refine (HLST.out [numT a0, strT a1] 2 _ 2 _ rfl (by omega) H2.out).mono ?_
  rintro e w5 ⟨a5, c5, rfl, hA5, hb5⟩
  have HB5 : Hid (Below w.heap.size w w5) := (HB4.out.alloc HB4.out.size _).trans (hb5.mono (by have := HB4.out.size; simp; omega))
  have HA5 := Lib.hid hA5
  clear hb5 hA5
  go_wp2_with fail
  generalize hW6 : World.alloc w5 _ = w6
  have hk6 : Blk w6 w5.heap.size 26 #[.int .i64 3, .int .i64 0, .string ⟨#[]⟩, .slice a5 2 c5] := by rw [← hW6]; exact Blk.new w5 26 _
  have HB6 : Hid (Below w.heap.size w w6) := by unfold Hid; rw [← hW6]; exact HB5.out.alloc HB5.out.size _
  have hs6 : w5.heap.size < w6.heap.size := by rw [← hW6]; simp
  have HA6 : Hid (At w6 (fun b => b < w6.heap.size ∧ b ≠ w5.heap.size) (.mk 3 0 ⟨#[]⟩ [numT a0, strT a1]) a5 c5) := by
    unfold Hid
    refine (HA5.out.keep (w' := w6) fun b hb => ?_).imp fun b hb => ⟨by omega, by omega⟩
    rw [← hW6]; exact ((Below.refl w5.heap.size w5).alloc (Nat.le_refl _) _).block b hb
  have HLNE : Hid (∀ (l : List Tree) n a c W, l.length = n → n ≤ 1000 → w5.heap.size < W.heap.size → At W (fun b => b < W.heap.size ∧ b ≠ w5.heap.size) (.mk 3 0 ⟨#[]⟩ l) a c → Calls Try.prog 34 #[.slice a n c] W fun e w' => ∃ a' c', e = .returned (.agg #[.int .i64 3, .int .i64 0, .string ⟨#[]⟩, .slice a' n c']) ∧ At w' (fun b => b < w'.heap.size ∧ b ≠ w5.heap.size) (.mk 3 0 ⟨#[]⟩ l) a' c' ∧ Below W.heap.size W w') := fun l n a c W hl hn hg hA => by
    subst hl
    refine (lst34K _ l a c W 3 0 ⟨#[]⟩ hA (fun b hb => hb.1) (by omega)).mono ?_
    rintro e w' ⟨a', c', h1, h2, h3⟩
    exact ⟨a', c', h1, h2.imp fun b hb => by have := h3.size; rcases hb with h | h <;> exact ⟨by omega, by omega⟩, h3⟩
  have HK6 := Lib.hid hk6
  have HSW := HB5.out.size
  clear hW6 hk6
  go_loopw [8, 9] (fun u i wr => ∃ (q : Nat) (a : Option Addr) (c : Nat) (xs : List Value), q ≤ len2 ∧ i = .int .i64 (q : Nat) ∧ u = .slice a q c ∧ OwnT wr w6.heap.size w6.heap.size (.slice a q c) ((zs.take q).map numT) xs ∧ Below w6.heap.size w6 wr) (fun _ i _ => len2 - (intOf i).toNat)
  case atStart => exact ⟨0, none, 0, [], Nat.zero_le _, rfl, rfl, OwnT.nil _ _ _, Below.refl _ _⟩
  case round =>
    obtain ⟨q, aL, cL, xs, hq, rfl, rfl, hO, hbl⟩ := hrel
    have HO := Lib.hid hO
    have HW := Lib.hid hbl
    have hsz := hbl.size
    clear hO hbl
    by_cases hlt : q < len2
    · obtain ⟨pb, poff, rfl, hpb, hpc⟩ := HZ.out.get hlt
      have hcp : wr.cell? ⟨pb, poff + q, none⟩ = some (.int .i64 (zs.getD q 0)) := (HW.out.cell (p := ⟨pb, poff + q, none⟩) (by have := HB6.out.size; show pb < _; omega)).trans ((HB6.out.cell (p := ⟨pb, poff + q, none⟩) hpb).trans hpc)
      have HTK : Hid ((zs.take (q + 1)).map numT = (zs.take q).map numT ++ [numT (zs.getD q 0)]) := by
        have hql : q < zs.length := by rw [HL.out]; exact hlt
        unfold Hid
        rw [List.take_succ_eq_append_getElem hql, List.map_append, getD_eq hql]; rfl
      have HQL : Hid (((zs.take q).map numT).length = q) := by unfold Hid; rw [List.length_map, List.length_take, HL.out]; omega
      generalize zs.getD q 0 = z at hcp HTK
      clear hpc
      go_wp2_with fail
      refine (HNUM.out _ _).mono ?_
      rintro e w7 ⟨rfl, hb7⟩
      have HB7 := Lib.hid hb7
      have HW7 : Hid (Below w6.heap.size w6 w7) := HW.out.trans (hb7.mono hsz)
      have hs7 := HW7.out.size
      clear hb7
      go_wp2_with (first
        | (at_builtin
           refine wpList_append_any _ rfl (.tmp 40) (.tmp 46) _ rfl w6.heap.size 26 i0 _ 4 56 Try.underlying24 hi0 hz0 hz1 hz2 rfl (by omega) (.slice aL q cL) q xs rfl
             (by have := ((HO.out.below HB7.out).alloc (.cells #[.int .i64 1, .int .i64 z, .string ⟨#[]⟩, .slice none 0 0] 26)).own; rw [HQL.out] at this; exact this)
             (w7.heap.size + 1) (some ⟨w7.heap.size, 0, none⟩) 1 1 ((numT z).item none 0) rfl (reads_new4 w7 _ _ _ _ _) (item_one _ _ _) (by simp only [maxLen]; omega) (by omega) (by simp; omega) ?_
           intro v8 w8 hown8 hg8 hat8
           have hX : OwnT w8 w6.heap.size w6.heap.size v8 ((zs.take q).map numT ++ [numT z]) (xs ++ (numT z).item none 0) :=
             OwnT.push ((HO.out.below HB7.out).alloc (.cells #[.int .i64 1, .int .i64 z, .string ⟨#[]⟩, .slice none 0 0] 26)) (at_leaf _ _ _ _ _) (by rw [HQL.out]; exact hown8) hg8 hat8
           obtain ⟨g8, c8, hv8, _, _⟩ := hown8.form (by omega)
           subst hv8
           have HX : Hid (OwnT w8 w6.heap.size w6.heap.size (.slice (some ⟨g8, 0, none⟩) (q + 1) c8) ((zs.take (q + 1)).map numT) (xs ++ (numT z).item none 0)) := by unfold Hid; rw [HTK.out]; exact hX
           have HW8 : Hid (Below w6.heap.size w6 w8) := (HW7.out.alloc hs7 _).grown hg8 (by simp; omega) (fun k hk => (HO.out.own.lt k hk).1)
           clear hown8 hg8 hat8 hX))
      go_roundw
      case rel => exact ⟨q + 1, some ⟨g8, 0, none⟩, c8, _, by omega, by go_num, by go_num, HX.out, HW8.out⟩
      case measure => simp [intOf]; omega
    · obtain rfl : q = len2 := by omega
      have HO2 : Hid (OwnT wr w6.heap.size w6.heap.size (.slice aL q cL) (zs.map numT) xs) := by
        have := HO.out
        rw [List.take_of_length_le (by rw [HL.out]; exact Nat.le_refl _)] at this
        exact this
      obtain ⟨a9, c9, hv9, _, _, hA9⟩ := HO2.out.form 3 0 ⟨#[]⟩
      injection hv9 with e1 e2 e3
      subst e1 e3
      have HAY : Hid (At wr (fun b => b < wr.heap.size ∧ b ≠ w5.heap.size) (.mk 3 0 ⟨#[]⟩ (zs.map numT)) aL cL) := hA9.imp fun b hb => ⟨hb.2, by rcases hb.1 with h | h <;> omega⟩
      have HLY : Hid ((zs.map numT).length = q) := e2.symm
      have hk9 := HK6.out.below HW.out (by omega)
      have HK9 := Lib.hid hk9
      have hg9 : w5.heap.size < wr.heap.size := by omega
      have hc0 := hk9.c0
      have hc1 := hk9.c1
      have hc2 := hk9.c2
      have hc3 := hk9.c3
      have hf0 := hk9.frozen 0
      have hf1 := hk9.frozen 1
      have hf2 := hk9.frozen 2
      have hf3 := hk9.frozen 3
      have HAX : Hid (At wr (fun b => b < wr.heap.size ∧ b ≠ w5.heap.size) (.mk 3 0 ⟨#[]⟩ [numT a0, strT a1]) a5 c5) := at_ne_later HA6.out HW.out
      have HBW : Hid (Below w.heap.size w wr) := HB6.out.trans (HW.out.mono HB6.out.size)
      have HL34 : Hid (∀ W, W.heap = wr.heap → Calls Try.prog 34 #[.slice aL q cL] W fun e w' => ∃ a' c', e = .returned (.agg #[.int .i64 3, .int .i64 0, .string ⟨#[]⟩, .slice a' q c']) ∧ At w' (fun b => b < w'.heap.size ∧ b ≠ w5.heap.size) (.mk 3 0 ⟨#[]⟩ (zs.map numT)) a' c' ∧ Below W.heap.size W w') := fun W e =>
        HLNE.out (zs.map numT) q aL cL W HLY.out (by omega) (by rw [e]; exact hg9) ((HAY.out.keep (w' := W) (fun b _ => by rw [e])).imp (fun b hb => by rw [e]; exact hb))
      clear hA9 e2 hk9
      go_wp2_with fail
      go_region_law (first
        | (go_simp
           go_at_call_of 34 (Value.slice aL q cL)
           refine (HL34.out _ ?_).mono ?_
           exact rfl
           rintro e w10 ⟨a10, c10, rfl, hA10, hb10'⟩
           have hb10 : Below wr.heap.size wr w10 := (Below.refl wr.heap.size wr).drew.trans hb10'
           have hs10 := hb10.size
           have hk10 := HK9.out.below hb10 (by omega)
           have HK10 := Lib.hid hk10
           have hd0 := hk10.c0
           have hd1 := hk10.c1
           have hd2 := hk10.c2
           have hd3 := hk10.c3
           have hg10 : w5.heap.size < w10.heap.size := by omega
           have HB10 : Hid (Below w.heap.size w w10) := HBW.out.trans (hb10.mono HBW.out.size)
           have HA10 : Hid (At w10 (fun b => b < w10.heap.size ∧ b ≠ w5.heap.size) (.mk 3 0 ⟨#[]⟩ (zs.map numT)) a10 c10) := hA10
           have HAX10 : Hid (At w10 (fun b => b < w10.heap.size ∧ b ≠ w5.heap.size) (.mk 3 0 ⟨#[]⟩ [numT a0, strT a1]) a5 c5) := at_ne_later HAX.out hb10
           have HLY10 : Hid ((zs.map numT).length = q) := HLY.out
           clear hA10 hb10' hb10 hk10)
        | (go_simp
           go_at_call 34
           refine (HLNE.out [.mk 3 0 ⟨#[]⟩ [numT a0, strT a1], .mk 3 0 ⟨#[]⟩ (zs.map numT)] 2 (some ⟨w10.heap.size, 0, none⟩) 2 _ rfl (by omega) (by simp; omega) ?_).mono ?_
           have h2 := at_two_ne (w := w10) hg10 HAX10.out HA10.out
           simp only [kind, Tree.num, text, list, List.length_cons, List.length_nil, HLY10.out] at h2
           exact h2.imp fun b hb => ⟨by simp; exact hb.1, hb.2⟩
           rintro e w11 ⟨a11, c11, rfl, hA11, hb11'⟩
           have hs11 : w10.heap.size + 1 ≤ w11.heap.size := by have := hb11'.size; simp at this; omega
           have hk11 := (HK10.out.alloc (.cells #[.int .i64 3, .int .i64 0, .string ⟨#[]⟩, .slice a5 2 c5, .int .i64 3, .int .i64 0, .string ⟨#[]⟩, .slice a10 q c10] 26)).below (B := w10.heap.size + 1) (hb11'.mono (by simp)) (by omega)
           have HK11 := Lib.hid hk11
           have he0 := hk11.c0
           have he1 := hk11.c1
           have he2 := hk11.c2
           have he3 := hk11.c3
           have hef0 := hk11.frozen 0
           have hef1 := hk11.frozen 1
           have hef2 := hk11.frozen 2
           have hef3 := hk11.frozen 3
           have hg11 : w5.heap.size < w11.heap.size := by omega
           have HB11 : Hid (Below w.heap.size w w11) := (HB10.out.alloc HB10.out.size _).trans (hb11'.mono (by have := HB10.out.size; simp; omega))
           have HA11 : Hid (At w11 (fun b => b < w11.heap.size ∧ b ≠ w5.heap.size) (makeT a0 a1 zs) a11 c11) := hA11
           clear hA11 hb11' hk11))
      all_goals go_wp2_with fail
      all_goals
        generalize hW12 : World.setCell (World.setCell (World.setCell (World.setCell w11 _ _) _ _) _ _) _ _ = w12
        have hp12 : w12 = put4 w11 w5.heap.size (.int .i64 3) (.int .i64 0) (.string ⟨#[]⟩) (.slice a11 2 c11) := hW12.symm
        have hkx12 : Blk w12 w5.heap.size 26 #[.int .i64 3, .int .i64 0, .string ⟨#[]⟩, .slice a11 2 c11] := by rw [hp12]; exact Blk.put4 HK11.out
        have HA12 : Hid (At w12 (· < w12.heap.size) (makeT a0 a1 zs) a11 c11) := by
          unfold Hid; rw [hp12]
          refine (HA11.out.keep fun b hb => put4_block hb.2).imp fun b hb => ?_
          rw [put4_size]; exact hb.1
        have HB12 : Hid (Below w.heap.size w w12) := by unfold Hid; rw [hp12]; exact Below.put4_ HB11.out HSW
        have HE12 : Hid (w11.heap.size = w12.heap.size) := by unfold Hid; rw [hp12, put4_size]
        have Hx12 := Lib.hid hkx12
        have hlx12 := hkx12.lt
        have hc0x12 := hkx12.c0
        have hc1x12 := hkx12.c1
        have hc2x12 := hkx12.c2
        have hc3x12 := hkx12.c3
        have HD12 : Hid (Below w12.heap.size w12 w12) := Below.refl _ _
        have hfit := makeT_fits a0 a1 zs (by rw [HL.out]; exact hlen)
        have HFIT := Lib.hid hfit
        have HFITY := Lib.hid (numsT_fits zs (by rw [HL.out]; exact hlen))
        have H31 : Hid (∀ (ys : List Int) (ap : Option Addr) (n cp : Nat) (r : Tree) W, Below w12.heap.size w12 W → n ≤ 10 → Nums W W.heap.size ap n ys → atE (makeT a0 a1 zs) ys = (r, 0) → Calls Try.prog 31 #[.agg #[.int .i64 3, .int .i64 0, .string ⟨#[]⟩, .slice a11 2 c11], .slice ap n cp] W (RetAt W (r, 0))) := fun ys ap n cp r W hb hn hN he =>
          at31_calls (makeT a0 a1 zs) a11 c11 ap n cp ys W (r, 0) (at_later HA12.out hb) (by have := HFIT.out.2.2; omega) hN (by omega) (.inl ⟨HFIT.out, he.symm⟩)
        clear hp12 hW12 hkx12 hfit
        have H00 : Hid (∀ ap cp W, Below w12.heap.size w12 W → Nums W W.heap.size ap 2 [0, 0] → Calls Try.prog 31 #[.agg #[.int .i64 3, .int .i64 0, .string ⟨#[]⟩, .slice a11 2 c11], .slice ap 2 cp] W fun e w' => ∃ a c, e = .returned (.tuple #[.agg #[.int .i64 1, .int .i64 a0, .string ⟨#[]⟩, .slice a 0 c], .int .i64 0]) ∧ Below W.heap.size W w') := fun ap cp W hb hN =>
          (H31.out [0, 0] ap 2 cp (numT a0) W hb (by omega) hN (make_at00 a0 a1 zs)).mono fun e w' h => by obtain ⟨a, c, h1, _, h3⟩ := h; exact ⟨a, c, h1, h3⟩
        have H01 : Hid (∀ ap cp W, Below w12.heap.size w12 W → Nums W W.heap.size ap 2 [0, 1] → Calls Try.prog 31 #[.agg #[.int .i64 3, .int .i64 0, .string ⟨#[]⟩, .slice a11 2 c11], .slice ap 2 cp] W fun e w' => ∃ a c, e = .returned (.tuple #[.agg #[.int .i64 2, .int .i64 0, .string a1, .slice a 0 c], .int .i64 0]) ∧ Below W.heap.size W w') := fun ap cp W hb hN =>
          (H31.out [0, 1] ap 2 cp (strT a1) W hb (by omega) hN (make_at01 a0 a1 zs)).mono fun e w' h => by obtain ⟨a, c, h1, _, h3⟩ := h; exact ⟨a, c, h1, h3⟩
        have H1 : Hid (∀ ap cp W, Below w12.heap.size w12 W → Nums W W.heap.size ap 1 [1] → Calls Try.prog 31 #[.agg #[.int .i64 3, .int .i64 0, .string ⟨#[]⟩, .slice a11 2 c11], .slice ap 1 cp] W fun e w' => ∃ a c, e = .returned (.tuple #[.agg #[.int .i64 3, .int .i64 0, .string ⟨#[]⟩, .slice a q c], .int .i64 0]) ∧ At w' (· < w'.heap.size) (.mk 3 0 ⟨#[]⟩ (zs.map numT)) a c ∧ Below W.heap.size W w') := fun ap cp W hb hN =>
          (H31.out [1] ap 1 cp (.mk 3 0 ⟨#[]⟩ (zs.map numT)) W hb (by omega) hN (make_at1 a0 a1 zs)).mono fun e w' h => by
            obtain ⟨a, c, h1, h2, h3⟩ := h
            simp only [val, kind, Tree.num, text, list, HLY.out] at h1
            exact ⟨a, c, h1, h2, h3⟩
        refine (H00.out (some ⟨w11.heap.size, 0, none⟩) 2 _ ((Below.refl _ _).alloc (Nat.le_refl _) _) (nums_two_at HE12.out 0 0)).mono ?_
        rintro e w13 ⟨a13, c13, rfl, hb13'⟩
        have hb13 : Below w12.heap.size w12 w13 := ((Below.refl w12.heap.size w12).alloc (Nat.le_refl _) _).trans (hb13'.mono (by simp))
        clear hb13'
        have HB13 : Hid (Below w.heap.size w w13) := HB12.out.trans (hb13.mono HB12.out.size)
        have hs13 := hb13.size
        have HD13 : Hid (Below w12.heap.size w12 w13) := HD12.out.trans (hb13.mono HD12.out.size)
        have hkx13 := Hx12.out.below hb13 Hx12.out.lt
        have Hx13 := Lib.hid hkx13
        have hlx13 := hkx13.lt
        have hc0x13 := hkx13.c0
        have hc1x13 := hkx13.c1
        have hc2x13 := hkx13.c2
        have hc3x13 := hkx13.c3
        clear hb13 hkx13
        go_wp2_with fail
        generalize hW14 : World.alloc w13 _ = w14
        have hbx14 : Below w13.heap.size w13 w14 := by rw [← hW14]; exact (Below.refl _ _).alloc (Nat.le_refl _) _
        have hknew : Blk w14 w13.heap.size 26 #[.int .i64 1, .int .i64 a0, .string ⟨#[]⟩, .slice a13 0 c13] := by rw [← hW14]; exact Blk.new w13 26 _
        have hsz14 : w14.heap.size = w13.heap.size + 1 := by rw [← hW14]; simp
        have Hy14 := Lib.hid hknew
        have hly14 := hknew.lt
        have hc0y14 := hknew.c0
        have hc1y14 := hknew.c1
        have hc2y14 := hknew.c2
        have hc3y14 := hknew.c3
        have HSZ14 := Lib.hid hsz14
        clear hW14 hknew hsz14
        have HB14 : Hid (Below w.heap.size w w14) := HB13.out.trans (hbx14.mono HB13.out.size)
        have hs14 := hbx14.size
        have HD14 : Hid (Below w12.heap.size w12 w14) := HD13.out.trans (hbx14.mono HD13.out.size)
        have hkx14 := Hx13.out.below hbx14 Hx13.out.lt
        have Hx14 := Lib.hid hkx14
        have hlx14 := hkx14.lt
        have hc0x14 := hkx14.c0
        have hc1x14 := hkx14.c1
        have hc2x14 := hkx14.c2
        have hc3x14 := hkx14.c3
        clear hbx14 hkx14
        refine (H01.out (some ⟨w13.heap.size + 1, 0, none⟩) 2 _ (HD14.out.alloc HD14.out.size _) (nums_two_at HSZ14.out.symm 0 1)).mono ?_
        rintro e w15 ⟨a15, c15, rfl, hb15'⟩
        have hb15 : Below w14.heap.size w14 w15 := ((Below.refl w14.heap.size w14).alloc (Nat.le_refl _) _).trans (hb15'.mono (by simp))
        clear hb15'
        have HB15 : Hid (Below w.heap.size w w15) := HB14.out.trans (hb15.mono HB14.out.size)
        have hs15 := hb15.size
        have HD15 : Hid (Below w12.heap.size w12 w15) := HD14.out.trans (hb15.mono HD14.out.size)
        have hkx15 := Hx14.out.below hb15 Hx14.out.lt
        have Hx15 := Lib.hid hkx15
        have hlx15 := hkx15.lt
        have hc0x15 := hkx15.c0
        have hc1x15 := hkx15.c1
        have hc2x15 := hkx15.c2
        have hc3x15 := hkx15.c3
        have hky15 := Hy14.out.below hb15 Hy14.out.lt
        have Hy15 := Lib.hid hky15
        have hly15 := hky15.lt
        have hc0y15 := hky15.c0
        have hc1y15 := hky15.c1
        have hc2y15 := hky15.c2
        have hc3y15 := hky15.c3
        clear hb15 hkx15 hky15
        go_wp2_with fail
        generalize hW16 : World.alloc w15 _ = w16
        have hbx16 : Below w15.heap.size w15 w16 := by rw [← hW16]; exact (Below.refl _ _).alloc (Nat.le_refl _) _
        have hknew : Blk w16 w15.heap.size 26 #[.int .i64 2, .int .i64 0, .string a1, .slice a15 0 c15] := by rw [← hW16]; exact Blk.new w15 26 _
        have hsz16 : w16.heap.size = w15.heap.size + 1 := by rw [← hW16]; simp
        have Hz16 := Lib.hid hknew
        have hlz16 := hknew.lt
        have hc0z16 := hknew.c0
        have hc1z16 := hknew.c1
        have hc2z16 := hknew.c2
        have hc3z16 := hknew.c3
        have HSZ16 := Lib.hid hsz16
        clear hW16 hknew hsz16
        have HB16 : Hid (Below w.heap.size w w16) := HB15.out.trans (hbx16.mono HB15.out.size)
        have hs16 := hbx16.size
        have HD16 : Hid (Below w12.heap.size w12 w16) := HD15.out.trans (hbx16.mono HD15.out.size)
        have hkx16 := Hx15.out.below hbx16 Hx15.out.lt
        have Hx16 := Lib.hid hkx16
        have hlx16 := hkx16.lt
        have hc0x16 := hkx16.c0
        have hc1x16 := hkx16.c1
        have hc2x16 := hkx16.c2
        have hc3x16 := hkx16.c3
        have hky16 := Hy15.out.below hbx16 Hy15.out.lt
        have Hy16 := Lib.hid hky16
        have hly16 := hky16.lt
        have hc0y16 := hky16.c0
        have hc1y16 := hky16.c1
        have hc2y16 := hky16.c2
        have hc3y16 := hky16.c3
        clear hbx16 hkx16 hky16
        refine (H1.out (some ⟨w15.heap.size + 1, 0, none⟩) 1 _ (HD16.out.alloc HD16.out.size _) (nums_one_at HSZ16.out.symm 1)).mono ?_
        rintro e w17 ⟨a17, c17, rfl, hA17, hb17'⟩
        have hb17 : Below w16.heap.size w16 w17 := ((Below.refl w16.heap.size w16).alloc (Nat.le_refl _) _).trans (hb17'.mono (by simp))
        have HA17 := Lib.hid hA17
        clear hb17' hA17
        have HB17 : Hid (Below w.heap.size w w17) := HB16.out.trans (hb17.mono HB16.out.size)
        have hs17 := hb17.size
        have HD17 : Hid (Below w12.heap.size w12 w17) := HD16.out.trans (hb17.mono HD16.out.size)
        have hkx17 := Hx16.out.below hb17 Hx16.out.lt
        have Hx17 := Lib.hid hkx17
        have hlx17 := hkx17.lt
        have hc0x17 := hkx17.c0
        have hc1x17 := hkx17.c1
        have hc2x17 := hkx17.c2
        have hc3x17 := hkx17.c3
        have hky17 := Hy16.out.below hb17 Hy16.out.lt
        have Hy17 := Lib.hid hky17
        have hly17 := hky17.lt
        have hc0y17 := hky17.c0
        have hc1y17 := hky17.c1
        have hc2y17 := hky17.c2
        have hc3y17 := hky17.c3
        have hkz17 := Hz16.out.below hb17 Hz16.out.lt
        have Hz17 := Lib.hid hkz17
        have hlz17 := hkz17.lt
        have hc0z17 := hkz17.c0
        have hc1z17 := hkz17.c1
        have hc2z17 := hkz17.c2
        have hc3z17 := hkz17.c3
        clear hb17 hkx17 hky17 hkz17
        go_wp2_with fail
        generalize hW18 : World.alloc w17 _ = w18
        have hbx18 : Below w17.heap.size w17 w18 := by rw [← hW18]; exact (Below.refl _ _).alloc (Nat.le_refl _) _
        have hknew : Blk w18 w17.heap.size 26 #[.int .i64 3, .int .i64 0, .string ⟨#[]⟩, .slice a17 q c17] := by rw [← hW18]; exact Blk.new w17 26 _
        have hsz18 : w18.heap.size = w17.heap.size + 1 := by rw [← hW18]; simp
        have Hv18 := Lib.hid hknew
        have hlv18 := hknew.lt
        have hc0v18 := hknew.c0
        have hc1v18 := hknew.c1
        have hc2v18 := hknew.c2
        have hc3v18 := hknew.c3
        have HSZ18 := Lib.hid hsz18
        clear hW18 hknew hsz18
        have HA18 := Lib.hid (at_later HA17.out hbx18)
        have HB18 : Hid (Below w.heap.size w w18) := HB17.out.trans (hbx18.mono HB17.out.size)
        have hs18 := hbx18.size
        have HD18 : Hid (Below w12.heap.size w12 w18) := HD17.out.trans (hbx18.mono HD17.out.size)
        have hkx18 := Hx17.out.below hbx18 Hx17.out.lt
        have Hx18 := Lib.hid hkx18
        have hlx18 := hkx18.lt
        have hc0x18 := hkx18.c0
        have hc1x18 := hkx18.c1
        have hc2x18 := hkx18.c2
        have hc3x18 := hkx18.c3
        have hky18 := Hy17.out.below hbx18 Hy17.out.lt
        have Hy18 := Lib.hid hky18
        have hly18 := hky18.lt
        have hc0y18 := hky18.c0
        have hc1y18 := hky18.c1
        have hc2y18 := hky18.c2
        have hc3y18 := hky18.c3
        have hkz18 := Hz17.out.below hbx18 Hz17.out.lt
        have Hz18 := Lib.hid hkz18
        have hlz18 := hkz18.lt
        have hc0z18 := hkz18.c0
        have hc1z18 := hkz18.c1
        have hc2z18 := hkz18.c2
        have hc3z18 := hkz18.c3
        clear hbx18 hkx18 hky18 hkz18
        have HI : Hid (Calls Try.prog 26 #[.agg #[.int .i64 3, .int .i64 0, .string ⟨#[]⟩, .slice a17 q c17]] w18 fun e w' => ∃ A cc, e = .returned (.tuple #[.slice A q cc, .int .i64 0]) ∧ Nums w' w'.heap.size A q zs ∧ Below w18.heap.size w18 w') := by
          have h1 := ints26_yes (.mk 3 0 ⟨#[]⟩ (zs.map numT)) a17 c17 w18 HA18.out HFITY.out rfl (fun i hi => by simp [list, numT, kind])
          simp only [val, kind, Tree.num, text, list, HLY.out] at h1
          refine h1.mono ?_
          rintro e w' ⟨v, rfl, hO, hb⟩
          obtain ⟨A, cc, rfl, hN⟩ := nums_own (zs := zs) (by rw [List.map_map] at hO; exact hO) HL.out
          exact ⟨A, cc, rfl, hN, hb⟩
        refine HI.out.mono ?_
        rintro e w19 ⟨A19, c19, rfl, hN19, hb19⟩
        have HN19 := Lib.hid hN19
        clear hN19
        have HB19 : Hid (Below w.heap.size w w19) := HB18.out.trans (hb19.mono HB18.out.size)
        have hs19 := hb19.size
        have HD19 : Hid (Below w12.heap.size w12 w19) := HD18.out.trans (hb19.mono HD18.out.size)
        have hkx19 := Hx18.out.below hb19 Hx18.out.lt
        have Hx19 := Lib.hid hkx19
        have hlx19 := hkx19.lt
        have hc0x19 := hkx19.c0
        have hc1x19 := hkx19.c1
        have hc2x19 := hkx19.c2
        have hc3x19 := hkx19.c3
        have hky19 := Hy18.out.below hb19 Hy18.out.lt
        have Hy19 := Lib.hid hky19
        have hly19 := hky19.lt
        have hc0y19 := hky19.c0
        have hc1y19 := hky19.c1
        have hc2y19 := hky19.c2
        have hc3y19 := hky19.c3
        have hkz19 := Hz18.out.below hb19 Hz18.out.lt
        have Hz19 := Lib.hid hkz19
        have hlz19 := hkz19.lt
        have hc0z19 := hkz19.c0
        have hc1z19 := hkz19.c1
        have hc2z19 := hkz19.c2
        have hc3z19 := hkz19.c3
        have hkv19 := Hv18.out.below hb19 Hv18.out.lt
        have Hv19 := Lib.hid hkv19
        have hlv19 := hkv19.lt
        have hc0v19 := hkv19.c0
        have hc1v19 := hkv19.c1
        have hc2v19 := hkv19.c2
        have hc3v19 := hkv19.c3
        clear hb19 hkx19 hky19 hkz19 hkv19
        go_wp2_with fail
        go_loopw [18] (fun i wr => ∃ j k, j ≤ q ∧ i = .int .i64 (j : Nat) ∧ wr = w19.drewN k) (fun i _ => q - (intOf i).toNat)
        case atStart => exact ⟨0, 0, Nat.zero_le _, rfl, rfl⟩
        case round =>
          obtain ⟨j, k, hj, rfl, hwr⟩ := hrel
          have cellr : ∀ p, wr.cell? p = w19.cell? p := fun p => cell_heap (by rw [hwr]; rfl) p
          have HWR := Lib.hid hwr
          have y0 := (cellr _).trans hc0x19
          have y1 := (cellr _).trans hc1x19
          have y2 := (cellr _).trans hc2x19
          have y3 := (cellr _).trans hc3x19
          clear hwr
          by_cases hlt : j < q
          · obtain ⟨b1, o1, rfl, hb1, hc1'⟩ := HN19.out.get hlt
            obtain ⟨b2, o2, rfl, hb2, hc2'⟩ := HZ.out.get hlt
            have f1 := (cellr _).trans hc1'
            have f2 := (cellr _).trans ((HB19.out.cell (p := ⟨b2, o2 + j, none⟩) hb2).trans hc2')
            generalize zs.getD j 0 = z at f1 f2
            clear hc1' hc2' cellr
            go_wp2_with fail
            go_region_held3 (fun w' => w'.cell? ⟨b1, o1 + j, none⟩ = some (.int .i64 z) ∧ w'.cell? ⟨b2, o2 + j, none⟩ = some (.int .i64 z)) (exact ⟨f1, f2⟩) (fail)
            all_goals go_wp2_with fail
            all_goals go_roundw
            all_goals first
              | (exact ⟨j + 1, k + 1, by omega, by go_num, by rw [HWR.out]; rfl⟩)
              | (simp [intOf]; omega)
          · have HD20 : Hid (Below w12.heap.size w12 wr) := by unfold Hid; rw [HWR.out]; exact below_drewN HD19.out _
            have HB20 : Hid (Below w.heap.size w wr) := by unfold Hid; rw [HWR.out]; exact below_drewN HB19.out _
            have HCK : Hid (Calls Try.prog 24 #[.agg #[.int .i64 3, .int .i64 0, .string ⟨#[]⟩, .slice a11 2 c11]] wr (Ret1 wr (.int .i64 0))) := check24 (makeT a0 a1 zs) a11 c11 wr 0 (at_later HA12.out HD20.out) (.inl ⟨HFIT.out, rfl⟩)
            clear cellr
            go_wp2_with fail
            refine HCK.out.mono ?_
            rintro e w21 ⟨rfl, hb21⟩
            have HB21 : Hid (Below w.heap.size w w21) := HB20.out.trans (hb21.mono HB20.out.size)
            clear hb21
            go_wp2_with fail
            refine (HKN.out _).mono ?_
            rintro e w22 ⟨rfl, hb22⟩
            have HB22 : Hid (Below w.heap.size w w22) := HB21.out.trans (hb22.mono HB21.out.size)
            clear hb22
            go_wp2_with fail
            go_ret
            exact ⟨rfl, HB22.out⟩
end Go.Proofs.Ytkmikpmbnfcbpaa
