/- ItemSame: the walk, of values of any size. -/
import Derived.Test.YtkmikpmbnfcbpaaHw
namespace Go.Proofs.Ytkmikpmbnfcbpaa
open Go.RowKit Go.Lib
set_option linter.unusedVariables false
open Tree Anyv

set_option maxHeartbeats 8000000 in
theorem walk_itemSame_any (t : Tree) (a : Option Addr) (c : Nat) (u : Tree) (a1 : Option Addr) (c1 : Nat) (w : World) (hA : At w (· < w.heap.size) t a c) (hF : Wf t) (hA' : At w (· < w.heap.size) u a1 c1) (hF' : Wf u) (hS : Sized t) :
    Calls Try.prog 8 #[val t a c, val u a1 c1] w fun e w' => e = .returned (.bool true) ∧ Below w.heap.size w w' := by
  obtain ⟨i0, hi0, hz0, hz1, hz2⟩ := info_parts item_info
  have hnl : t.list.length ≤ 2513169434843 := by have := ((sized_eq t).1 hS).2.1; omega
  have hk0 : Blk ((w.alloc (.cells #[.int .i64 t.kind, .int .i64 t.num, .string t.text, .slice a t.list.length c] 26)).alloc (.cells #[.int .i64 u.kind, .int .i64 u.num, .string u.text, .slice a1 u.list.length c1] 26)) w.heap.size 26 #[.int .i64 t.kind, .int .i64 t.num, .string t.text, .slice a t.list.length c] := boxed.alloc _
  have hk1 : Blk ((w.alloc (.cells #[.int .i64 t.kind, .int .i64 t.num, .string t.text, .slice a t.list.length c] 26)).alloc (.cells #[.int .i64 u.kind, .int .i64 u.num, .string u.text, .slice a1 u.list.length c1] 26)) (w.heap.size + 1) 26 #[.int .i64 u.kind, .int .i64 u.num, .string u.text, .slice a1 u.list.length c1] := by rw [← size_alloc w]; exact Blk.new _ 26 _
  have hb1 : Below w.heap.size w ((w.alloc (.cells #[.int .i64 t.kind, .int .i64 t.num, .string t.text, .slice a t.list.length c] 26)).alloc (.cells #[.int .i64 u.kind, .int .i64 u.num, .string u.text, .slice a1 u.list.length c1] 26)) := ((Below.refl _ _).alloc (Nat.le_refl _) _).alloc (by simp) _
  have hs1 : ((w.alloc (.cells #[.int .i64 t.kind, .int .i64 t.num, .string t.text, .slice a t.list.length c] 26)).alloc (.cells #[.int .i64 u.kind, .int .i64 u.num, .string u.text, .slice a1 u.list.length c1] 26)).heap.size = w.heap.size + 2 := by simp
  generalize hW : (w.alloc (.cells #[.int .i64 t.kind, .int .i64 t.num, .string t.text, .slice a t.list.length c] 26)).alloc (.cells #[.int .i64 u.kind, .int .i64 u.num, .string u.text, .slice a1 u.list.length c1] 26) = W1 at hk0 hk1 hb1 hs1
  have hA1 : At W1 (· < W1.heap.size) t a c := at_later hA hb1
  have hA2 : At W1 (· < W1.heap.size) u a1 c1 := at_later hA' hb1
  have HWW := Lib.hid hW
  have HB1 := Lib.hid hb1
  have HK1 := Lib.hid hk0
  have HL1 := Lib.hid hk1
  have HA := Lib.hid hA1
  have HLONG : Hid (Calls Try.prog 16 #[val t a c] W1 fun e w' => (∃ b : Bool, e = .returned (.bool b)) ∧ Below W1.heap.size W1 w') := long_any t a c W1 hA1
  have HLONG2 : Hid (∀ W, Below W1.heap.size W1 W → Calls Try.prog 16 #[val u a1 c1] W fun e w' => (∃ b : Bool, e = .returned (.bool b)) ∧ Below W.heap.size W w') := fun W hb => long_any u a1 c1 W (at_later hA2 hb)
  have HKN : Hid (∀ W, Calls Try.prog 12 #[] W (Ret1 W (.bool true))) := fun W => known12 W
  have HSA : Hid (∀ W, Below W1.heap.size W1 W → Calls Try.prog 29 #[val t a c, val u a1 c1] W (RetQ W (t = u))) := fun W hb => same29_calls t.count t u a a1 c c1 W (Nat.le_refl _) (at_later hA1 hb) (at_later hA2 hb)
  have HSB : Hid (∀ W, Below W1.heap.size W1 W → Calls Try.prog 29 #[val t a c, val t a c] W (RetQ W (t = t))) := fun W hb => same29_calls t.count t t a a c c W (Nat.le_refl _) (at_later hA1 hb) (at_later hA1 hb)
  have HRA : Hid (∀ W, Below W1.heap.size W1 W → Calls Try.prog 15 #[val t a c, val u a1 c1] W (RetQ W (t = u))) := fun W hb => refSame15_calls t.count t u a a1 c c1 W (Nat.le_refl _) (at_later hA1 hb) (at_later hA2 hb)
  have HRB : Hid (∀ a2 c2 W, Below W1.heap.size W1 W → At W (· < W.heap.size) t a2 c2 → Calls Try.prog 15 #[val t a2 c2, val t a c] W (RetQ W (t = t))) := fun a2 c2 W hb h => refSame15_calls t.count t t a2 a c2 c W (Nat.le_refl _) h (at_later hA1 hb)
  have HCP : Hid (∀ W, Below W1.heap.size W1 W → Calls Try.prog 30 #[val t a c] W (RetOwn W t)) := fun W hb => copy_sized t.count t a c W (Nat.le_refl _) hS (at_later hA1 hb)
  obtain ⟨p, hp⟩ : ∃ p : Prop, p = (t = u) := ⟨_, rfl⟩
  rw [← hp] at HSA HRA
  unfold val at HLONG HLONG2 HSA HSB HRA HRB ⊢
  unfold RetOwn val at HCP
  clear hA hA' hA1 hA2 hk0 hk1 hb1 hW hS hp
  go_enter Try.func8, Try.ntmps8
  go_wp2_with fail
  rw [HWW.out]
  refine HLONG.out.mono ?_
  rintro e w2 ⟨⟨br, rfl⟩, hb2⟩
  have HB2 := Lib.hid hb2
  have hs2 := hb2.size
  have hk2 := HK1.out.below hb2 (by omega)
  have hl2 := HL1.out.below hb2 (by omega)
  have HK2 := Lib.hid hk2
  have HL2 := Lib.hid hl2
  have hc0 := hk2.c0
  have hc1 := hk2.c1
  have hc2 := hk2.c2
  have hc3 := hk2.c3
  have mc0 := hl2.c0
  have mc1 := hl2.c1
  have mc2 := hl2.c2
  have mc3 := hl2.c3
  have hgg2 : w.heap.size + 1 < w2.heap.size := by omega
  clear hb2 hk2 hl2
  cases br with
  | true =>
      go_wp2_with fail
      refine (HKN.out _).mono ?_
      rintro e w9 ⟨rfl, hb9⟩
      have HB9 : Hid (Below w.heap.size w w9) := HB1.out.trans ((HB2.out.trans (hb9.mono HB2.out.size)).mono HB1.out.size)
      clear hb9
      go_wp2_with fail
      go_ret
      exact ⟨rfl, HB9.out⟩
  | false =>
    go_wp2_with fail
    refine (HLONG2.out w2 HB2.out).mono ?_
    rintro e w3 ⟨⟨br, rfl⟩, hb3⟩
    have HB3 : Hid (Below W1.heap.size W1 w3) := HB2.out.trans (hb3.mono HB2.out.size)
    have hs3 := hb3.size
    have HBB3 := Lib.hid hb3
    have hk3 := HK2.out.below hb3 (by omega)
    have hl3 := HL2.out.below hb3 (by omega)
    have HK3 := Lib.hid hk3
    have HL3 := Lib.hid hl3
    have hc03 := hk3.c0
    have hc13 := hk3.c1
    have hc23 := hk3.c2
    have hc33 := hk3.c3
    have mc03 := hl3.c0
    have mc13 := hl3.c1
    have mc23 := hl3.c2
    have mc33 := hl3.c3
    have hgg3 : w.heap.size + 1 < w3.heap.size := by omega
    have hgy3 : w.heap.size < w3.heap.size := by omega
    clear hb3 hk3 hl3
    cases br with
    | true =>
      go_wp2_with fail
      refine (HKN.out _).mono ?_
      rintro e w9 ⟨rfl, hb9⟩
      have HB9 : Hid (Below w.heap.size w w9) := HB1.out.trans ((HB3.out.trans (hb9.mono HB3.out.size)).mono HB1.out.size)
      clear hb9
      go_wp2_with fail
      go_ret
      exact ⟨rfl, HB9.out⟩
    | false =>
      go_wp2_with fail
      refine (HSA.out w3 HB3.out).mono ?_
      rintro e w4 ⟨b0, rfl, hb0, hb4⟩
      have HP0 := Lib.hid hb0
      clear hb0
      have HB4 : Hid (Below W1.heap.size W1 w4) := HB3.out.trans (hb4.mono HB3.out.size)
      have hs4 := hb4.size
      have HBB4 := Lib.hid hb4
      have hk4 := HK3.out.below hb4 (by omega)
      have hl4 := HL3.out.below hb4 (by omega)
      have HK4 := Lib.hid hk4
      have HL4 := Lib.hid hl4
      have hc04 := hk4.c0
      have hc14 := hk4.c1
      have hc24 := hk4.c2
      have hc34 := hk4.c3
      have mc04 := hl4.c0
      have mc14 := hl4.c1
      have mc24 := hl4.c2
      have mc34 := hl4.c3
      have hgg4 : w.heap.size + 1 < w4.heap.size := by omega
      have hgy4 : w.heap.size < w4.heap.size := by omega
      clear hb4 hk4 hl4
      go_wp2_with fail
      refine (HCP.out w4 HB4.out).mono ?_
      rintro e w5 ⟨a5, c5, xs5, rfl, hA5, hO5, hb5⟩
      have HA5 : Hid (At w5 (· < w5.heap.size) t a5 c5) := hA5.imp fun b hb => hb.2
      have HO5 := Lib.hid hO5
      clear hA5 hO5
      have HB5 : Hid (Below W1.heap.size W1 w5) := HB4.out.trans (hb5.mono HB4.out.size)
      have hs5 := hb5.size
      have HBB5 := Lib.hid hb5
      have hk5 := HK4.out.below hb5 (by omega)
      have hl5 := HL4.out.below hb5 (by omega)
      have HK5 := Lib.hid hk5
      have HL5 := Lib.hid hl5
      have hc05 := hk5.c0
      have hc15 := hk5.c1
      have hc25 := hk5.c2
      have hc35 := hk5.c3
      have mc05 := hl5.c0
      have mc15 := hl5.c1
      have mc25 := hl5.c2
      have mc35 := hl5.c3
      have hgg5 : w.heap.size + 1 < w5.heap.size := by omega
      have hgy5 : w.heap.size < w5.heap.size := by omega
      clear hb5 hk5 hl5
      have hfz : ∀ (C : Array Value) (i : Nat), (w5.alloc (.cells C 26)).frozen? ⟨w5.heap.size, i, none⟩ = false := fun C i => World.frozen?_alloc_at C 26 _ i rfl
      go_wp2_with fail
      try case isTrue => exact absurd ‹World.frozen? _ _ = true› (by rw [hfz]; decide)
      generalize hW6 : World.alloc w5 _ = w6
      have hb6 : Below w5.heap.size w5 w6 := by rw [← hW6]; exact (Below.refl _ _).alloc (Nat.le_refl _) _
      have hc6x : Blk w6 w5.heap.size 26 #[.int .i64 t.kind, .int .i64 t.num, .string t.text, .slice a5 t.list.length c5] := by rw [← hW6]; exact Blk.new w5 26 _
      have hs6x : w6.heap.size = w5.heap.size + 1 := by rw [← hW6]; simp
      have HX6 := Lib.hid hc6x
      have HA6 : Hid (At w6 (· < w6.heap.size) t a5 c5) := at_later HA5.out hb6
      have HO6 := Lib.hid (OwnR.below_ HO5.out hb6)
      clear hW6 hfz hc6x
      have HB6 : Hid (Below W1.heap.size W1 w6) := HB5.out.trans (hb6.mono HB5.out.size)
      have hs6 := hb6.size
      have HBB6 := Lib.hid hb6
      have hk6 := HK5.out.below hb6 (by omega)
      have hl6 := HL5.out.below hb6 (by omega)
      have HK6 := Lib.hid hk6
      have HL6 := Lib.hid hl6
      have hc06 := hk6.c0
      have hc16 := hk6.c1
      have hc26 := hk6.c2
      have hc36 := hk6.c3
      have mc06 := hl6.c0
      have mc16 := hl6.c1
      have mc26 := hl6.c2
      have mc36 := hl6.c3
      have hgg6 : w.heap.size + 1 < w6.heap.size := by omega
      have hgy6 : w.heap.size < w6.heap.size := by omega
      clear hb6 hk6 hl6
      refine (HRA.out w6 HB6.out).mono ?_
      rintro e w7 ⟨b1, rfl, hb1, hb7⟩
      have hbb : b1 = b0 := by have h1 := HP0.out; cases b0 <;> cases b1 <;> simp_all
      subst hbb
      have HX7 := Lib.hid (HX6.out.below hb7 (by omega))
      have HA7 : Hid (At w7 (· < w7.heap.size) t a5 c5) := at_later HA6.out hb7
      have HO7 := Lib.hid (OwnR.below_ HO6.out hb7)
      have xc0 := HX7.out.c0
      have xc1 := HX7.out.c1
      have xc2 := HX7.out.c2
      have xc3 := HX7.out.c3
      clear hb1
      have HB7 : Hid (Below W1.heap.size W1 w7) := HB6.out.trans (hb7.mono HB6.out.size)
      have hs7 := hb7.size
      have HBB7 := Lib.hid hb7
      have hk7 := HK6.out.below hb7 (by omega)
      have hl7 := HL6.out.below hb7 (by omega)
      have HK7 := Lib.hid hk7
      have HL7 := Lib.hid hl7
      have hc07 := hk7.c0
      have hc17 := hk7.c1
      have hc27 := hk7.c2
      have hc37 := hk7.c3
      have mc07 := hl7.c0
      have mc17 := hl7.c1
      have mc27 := hl7.c2
      have mc37 := hl7.c3
      have hgg7 : w.heap.size + 1 < w7.heap.size := by omega
      have hgy7 : w.heap.size < w7.heap.size := by omega
      clear hb7 hk7 hl7
      go_wp2_with fail
      refine (HRB.out a5 c5 w7 HB7.out HA7.out).mono ?_
      rintro e w8 ⟨br, rfl, hbr, hb8⟩
      have hbt : br = true := hbr.2 (by trivial)
      subst hbt
      have HX8 := Lib.hid (HX7.out.below hb8 (by omega))
      have HO8 := Lib.hid (OwnR.below_ HO7.out hb8)
      clear hbr
      have HB8 : Hid (Below W1.heap.size W1 w8) := HB7.out.trans (hb8.mono HB7.out.size)
      have hs8 := hb8.size
      have HBB8 := Lib.hid hb8
      have hk8 := HK7.out.below hb8 (by omega)
      have hl8 := HL7.out.below hb8 (by omega)
      have HK8 := Lib.hid hk8
      have HL8 := Lib.hid hl8
      have hc08 := hk8.c0
      have hc18 := hk8.c1
      have hc28 := hk8.c2
      have hc38 := hk8.c3
      have mc08 := hl8.c0
      have mc18 := hl8.c1
      have mc28 := hl8.c2
      have mc38 := hl8.c3
      have hgg8 : w.heap.size + 1 < w8.heap.size := by omega
      have hgy8 : w.heap.size < w8.heap.size := by omega
      clear hb8 hk8 hl8
      go_wp2_with fail
      have HGL : Hid (∀ k, Value.ownBlock (.slice a5 t.list.length c5) = some k → w4.heap.size ≤ k ∧ k < w5.heap.size) := HO5.out.lt
      have HB48 : Hid (Below w4.heap.size w4 w8) := by
        have h5 := HBB5.out
        exact h5.trans ((HBB6.out.trans ((HBB7.out.trans (HBB8.out.mono (by omega))).mono (by omega))).mono (by omega))
      go_loopw [7] (fun i wr => ∃ (q : Nat) (xs : List Value), q ≤ t.list.length ∧ i = .int .i64 (q : Nat) ∧ wr.ownsRow w4.heap.size 26 4 (.slice a5 t.list.length c5) t.list.length xs ∧ Blk wr w5.heap.size 26 #[.int .i64 t.kind, .int .i64 t.num, .string t.text, .slice a5 t.list.length c5] ∧ Below w4.heap.size w4 wr) (fun i _ => t.list.length - (intOf i).toNat)
      case atStart => exact ⟨0, xs5, Nat.zero_le _, rfl, HO8.out, HX8.out, HB48.out⟩
      case round =>
        obtain ⟨q, xs, hq, rfl, hO, hX, hbl⟩ := hrel
        have HO := Lib.hid hO
        have HX := Lib.hid hX
        have HBL := Lib.hid hbl
        have hx3 := hX.c3
        have hsz := hbl.size
        have hk9 := HK4.out.below hbl (by omega)
        have hl9 := HL4.out.below hbl (by omega)
        have hc09 := hk9.c0
        have hc19 := hk9.c1
        have hc29 := hk9.c2
        have hc39 := hk9.c3
        have mc09 := hl9.c0
        have mc19 := hl9.c1
        have mc29 := hl9.c2
        have mc39 := hl9.c3
        have HK9 := Lib.hid hk9
        clear hbl hX hk9 hl9
        by_cases hlt : q < t.list.length
        · obtain ⟨g5, cap5, hv5, _, _⟩ := hO.form (by omega)
          injection hv5 with e1 _ e3
          subst e1 e3
          have hgl := HGL.out g5 rfl
          have hlen : xs.length = t.list.length * 4 := hO.1
          have hcl : ∀ j, j < 4 → ∃ v, wr.cell? ⟨g5, q * 4 + j, none⟩ = some v := fun j hj => by
            rw [World.ownsRow.cellAt hO (q * 4 + j) (by omega)]
            exact ⟨_, List.getElem?_eq_getElem (by omega)⟩
          obtain ⟨v0, y0⟩ := hcl 0 (by omega)
          obtain ⟨v1, y1⟩ := hcl 1 (by omega)
          obtain ⟨v2, y2⟩ := hcl 2 (by omega)
          obtain ⟨v3, y3⟩ := hcl 3 (by omega)
          rw [Nat.add_zero] at y0
          have z0 := World.ownsRow.frozenAt hO (q * 4)
          have z1 := World.ownsRow.frozenAt hO (q * 4 + 1)
          have z2 := World.ownsRow.frozenAt hO (q * 4 + 2)
          have z3 := World.ownsRow.frozenAt hO (q * 4 + 3)
          have zz : ∀ (W : World) (p : Addr) (v : Value) (x : Addr), (W.setCell p v).frozen? x = W.frozen? x := fun W p v x => by simp
          clear hO hcl hlen
          go_wp2_with fail
          all_goals try exact absurd ‹World.frozen? _ _ = true› (by simp [z0, z1, z2, z3])
          go_roundw
          case rel =>
            have s1 := World.ownsRow.stored HO.out (q * 4) (.int .i64 1)
            have s2 := World.ownsRow.stored s1.1 (q * 4 + 1) (.int .i64 (-99))
            have s3 := World.ownsRow.stored s2.1 (q * 4 + 2) (.string ⟨#[]⟩)
            have s4 := World.ownsRow.stored s3.1 (q * 4 + 3) (.slice none 0 0)
            exact ⟨q + 1, _, by omega, by go_num, s4.1, (((HX.out.far (by show w5.heap.size ≠ g5; omega) _).far (by show w5.heap.size ≠ g5; omega) _).far (by show w5.heap.size ≠ g5; omega) _).far (by show w5.heap.size ≠ g5; omega) _,
              (((HBL.out.setCell (by show w4.heap.size ≤ g5; omega) _).setCell (by show w4.heap.size ≤ g5; omega) _).setCell (by show w4.heap.size ≤ g5; omega) _).setCell (by show w4.heap.size ≤ g5; omega) _⟩
          case measure => simp [intOf]; omega
        · have HB9 : Hid (Below W1.heap.size W1 wr) := HB4.out.trans (HBL.out.mono HB4.out.size)
          clear hO
          go_wp2_with fail
          refine (HSA.out wr HB9.out).mono ?_
          rintro e w10 ⟨b2, rfl, hb2, hb10⟩
          have hbb2 : b2 = b1 := by have h1 := HP0.out; cases b1 <;> cases b2 <;> simp_all
          subst hbb2
          have HB10 : Hid (Below W1.heap.size W1 w10) := HB9.out.trans (hb10.mono HB9.out.size)
          have hk10 := HK9.out.below hb10 HK9.out.lt
          have hc010 := hk10.c0
          have hc110 := hk10.c1
          have hc210 := hk10.c2
          have hc310 := hk10.c3
          clear hb2 hb10 hk10
          go_wp2_with fail
          refine (HSB.out w10 HB10.out).mono ?_
          rintro e w11 ⟨br, rfl, hbr, hb11⟩
          have hbt : br = true := hbr.2 (by trivial)
          subst hbt
          have HB11 : Hid (Below W1.heap.size W1 w11) := HB10.out.trans (hb11.mono HB10.out.size)
          clear hbr hb11
          go_wp2_with fail
          refine (HKN.out _).mono ?_
          rintro e w12 ⟨rfl, hb12⟩
          have HB12 : Hid (Below w.heap.size w w12) := HB1.out.trans ((HB11.out.trans (hb12.mono HB11.out.size)).mono HB1.out.size)
          clear hb12
          go_wp2_with fail
          go_ret
          exact ⟨rfl, HB12.out⟩
end Go.Proofs.Ytkmikpmbnfcbpaa
