/- ItemAnys: the walk. -/
import Derived.Test.YtkmikpmbnfcbpaaGw
namespace Go.Proofs.Ytkmikpmbnfcbpaa
open Go.RowKit Go.Lib
set_option linter.unusedVariables false
open Tree Anyv

set_option maxHeartbeats 4000000 in
theorem walk_itemAnys (t : Tree) (a : Option Addr) (c : Nat) (w : World) (hA : At w (· < w.heap.size) t a c) (hF : Wf t) (hbulk : (t.count + t.letters) ≤ 1048576) :
    Calls Try.prog 6 #[val t a c] w fun e w' => e = .returned (.bool true) ∧ Below w.heap.size w w' := by
  have hN : t.count ≤ 1000000000 := by omega
  have hbx := boxed (w := w) (k := t.kind) (n := t.num) (s := t.text) (L := .slice a t.list.length c)
  generalize hW : w.alloc (.cells #[.int .i64 t.kind, .int .i64 t.num, .string t.text, .slice a t.list.length c] 26) = W1 at hbx
  have hA1 : At W1 (· < W1.heap.size) t a c := by rw [← hW]; exact at_alloc hA _
  have hb1 : Below w.heap.size w W1 := by rw [← hW]; exact (Below.refl _ _).alloc (Nat.le_refl _) _
  have hg : w.heap.size < W1.heap.size := hbx.lt
  have HBX := Lib.hid hbx
  have HB1 := Lib.hid hb1
  have HWW := Lib.hid hW
  have HA := Lib.hid hA1
  have HLONG : Hid (Calls Try.prog 16 #[val t a c] W1 (RetQ W1 (Long t))) := long16 t a c W1 hA1 hN
  have HKN : Hid (∀ W, Calls Try.prog 12 #[] W (Ret1 W (.bool true))) := fun W => known12 W
  have HC25 : Hid (¬ Fits t 20 → ∀ W, Below W1.heap.size W1 W → Calls Try.prog 25 #[val t a c] W (Ret1 W (.int .i64 2))) := fun h W hb => refCheck25 t a c W 2 (at_later hA1 hb) hN (.inr ⟨h, rfl⟩)
  have HE1 : Hid (¬ Fits t 20 → ∀ W, Below W1.heap.size W1 W → Calls Try.prog 19 #[val t a c] W (Ret1 W (.tuple #[.nilIface, .int .i64 2]))) := fun hf W hb => any19_no t a c W (at_later hA1 hb) hf
  have HE2 : Hid (Fits t 20 → ∀ W, Below W1.heap.size W1 W → Calls Try.prog 19 #[val t a c] W fun e w' => ∃ v, e = .returned (.tuple #[v, .int .i64 0]) ∧ Lies w' (fun b => W.heap.size ≤ b ∧ b < w'.heap.size) (toA t) v ∧ Below W.heap.size W w') := fun hf W hb => any19_yes t a c W (at_later hA1 hb) hf
  have HOF : Hid (Fits t 20 → ∀ v W, Lies W (· < W.heap.size) (toA t) v → Calls Try.prog 21 #[v] W fun e w' => ∃ a c, e = .returned (.tuple #[val t a c, .int .i64 0]) ∧ At w' (fun b => W.heap.size ≤ b ∧ b < w'.heap.size) t a c ∧ Below W.heap.size W w') := fun hf v W hL => by
    have := of21_ok (toA t) v W hL (by have := size_toA t; omega) (ty_toA t 0) (by rw [of_toA hf]; exact hf)
    rwa [of_toA hf] at this
  have HSM : Hid (∀ a2 c2 W, At W (· < W.heap.size) t a2 c2 → Below W1.heap.size W1 W → Calls Try.prog 15 #[val t a2 c2, val t a c] W (RetQ W (t = t))) := fun a2 c2 W h hb => refSame15_calls t.count t t a2 a c2 c W (Nat.le_refl _) h (at_later hA1 hb)
  unfold val at HLONG HC25 HE1 HE2 HOF HSM ⊢
  clear hA hA1 hbx hb1 hW hbulk
  go_enter Try.func6, Try.ntmps6
  go_wp2_with fail
  rw [HWW.out]
  refine HLONG.out.mono ?_
  rintro e w2 ⟨br, rfl, _, hb2⟩
  have HB2 := Lib.hid hb2
  have hk2 := HBX.out.below hb2 hg
  have HK2 := Lib.hid hk2
  have hs2 := hb2.size
  have hc0 := hk2.c0
  have hc1 := hk2.c1
  have hc2 := hk2.c2
  have hc3 := hk2.c3
  have hg2 : w.heap.size < w2.heap.size := by omega
  clear hb2 hk2
  cases br with
  | true =>
    go_wp2_with fail
    refine (HKN.out _).mono ?_
    rintro e w3 ⟨rfl, hb3⟩
    have HB3 : Hid (Below w.heap.size w w3) := HB1.out.trans ((HB2.out.trans (hb3.mono hs2)).mono (by omega))
    clear hb3
    go_wp2_with fail
    go_ret
    exact ⟨rfl, HB3.out⟩
  | false =>
    by_cases hf : Fits t 20
    · go_wp2_with fail
      refine (HE2.out hf w2 HB2.out).mono ?_
      rintro e w3 ⟨v3, rfl, hL3, hb3⟩
      obtain ⟨T3, x3, rfl⟩ := hL3.iface
      have HB3 : Hid (Below W1.heap.size W1 w3) := HB2.out.trans (hb3.mono hs2)
      have hk3 := HK2.out.below hb3 hg2
      have HK3 := Lib.hid hk3
      have hs3 := hb3.size
      have hg3 : w.heap.size < w3.heap.size := by omega
      have HL3 : Hid (Lies w3 (· < w3.heap.size) (toA t) (.iface T3 x3)) := hL3.imp fun b hb => hb.2
      clear hb3 hk3 hL3
      go_wp2_with fail
      refine (HOF.out hf _ w3 HL3.out).mono ?_
      rintro e w4 ⟨a4, c4, rfl, hA4, hb4⟩
      have HB4 : Hid (Below W1.heap.size W1 w4) := HB3.out.trans (hb4.mono HB3.out.size)
      have hk4 := HK3.out.below hb4 hg3
      have HK4 := Lib.hid hk4
      have hs4 := hb4.size
      have hg4 : w.heap.size < w4.heap.size := by omega
      have hc04 := hk4.c0
      have hc14 := hk4.c1
      have hc24 := hk4.c2
      have hc34 := hk4.c3
      have HA4 : Hid (At w4 (· < w4.heap.size) t a4 c4) := hA4.imp fun b hb => hb.2
      have hfz : ∀ (C : Array Value) (i : Nat), (w4.alloc (.cells C 26)).frozen? ⟨w4.heap.size, i, none⟩ = false := fun C i => World.frozen?_alloc_at C 26 _ i rfl
      clear hb4 hk4 hA4
      go_wp2_with fail
      case isTrue => exact absurd ‹World.frozen? _ _ = true› (by rw [hfz]; decide)
      refine (HSM.out a4 c4 _ (at_alloc HA4.out _) (HB4.out.alloc HB4.out.size _)).mono ?_
      rintro e w5 ⟨br, rfl, hbr, hb5⟩
      have hbt : br = true := hbr.2 (by trivial)
      subst hbt
      have HB5 : Hid (Below W1.heap.size W1 w5) := (HB4.out.alloc HB4.out.size _).trans (hb5.mono (by have := HB4.out.size; simp; omega))
      clear hb5 hbr
      go_wp2_with fail
      refine (HKN.out _).mono ?_
      rintro e w6 ⟨rfl, hb6⟩
      have HB6 : Hid (Below w.heap.size w w6) := HB1.out.trans ((HB5.out.trans (hb6.mono HB5.out.size)).mono HB1.out.size)
      clear hb6
      go_wp2_with fail
      go_ret
      exact ⟨rfl, HB6.out⟩
    · go_wp2_with fail
      refine (HE1.out hf w2 HB2.out).mono ?_
      rintro e w3 ⟨rfl, hb3⟩
      have HB3 : Hid (Below W1.heap.size W1 w3) := HB2.out.trans (hb3.mono hs2)
      have hk3 := HK2.out.below hb3 hg2
      have hc03 := hk3.c0
      have hc13 := hk3.c1
      have hc23 := hk3.c2
      have hc33 := hk3.c3
      have hs3 := hb3.size
      clear hb3 hk3
      go_wp2_with fail
      refine (HC25.out hf w3 HB3.out).mono ?_
      rintro e w4 ⟨rfl, hb4⟩
      have HB4 : Hid (Below W1.heap.size W1 w4) := HB3.out.trans (hb4.mono HB3.out.size)
      clear hb4
      go_wp2_with fail
      refine (HKN.out _).mono ?_
      rintro e w6 ⟨rfl, hb6⟩
      have HB6 : Hid (Below w.heap.size w w6) := HB1.out.trans ((HB4.out.trans (hb6.mono HB4.out.size)).mono HB1.out.size)
      clear hb6
      go_wp2_with fail
      go_ret
      exact ⟨rfl, HB6.out⟩
end Go.Proofs.Ytkmikpmbnfcbpaa
