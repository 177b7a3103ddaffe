/- ItemAt: the walk. -/
import Derived.Test.YtkmikpmbnfcbpaaGy
namespace Go.Proofs.Ytkmikpmbnfcbpaa
open Go.RowKit Go.Lib
set_option linter.unusedVariables false
open Tree Anyv

theorem IsRow.nums {w : World} {a : Option Addr} {len cap : Nat} {zs : List Int} (h : IsRow .i64 w a len cap zs) : Nums w w.heap.size a len (zs.take len) ∧ len ≤ cap ∧ cap ≤ 9223372036854775807 := by
  rcases h with ⟨rfl, rfl, rfl, rfl⟩ | ⟨x, rfl, hl, hm, hz, hc, hw⟩
  · exact ⟨⟨rfl, .inl rfl⟩, Nat.le_refl _, by omega⟩
  · refine ⟨⟨by rw [List.length_take]; omega, ?_⟩, hl, by unfold maxLen at hm; omega⟩
    rcases Nat.eq_zero_or_pos len with h0 | h0
    · exact .inl h0
    · obtain ⟨b, off, spot⟩ := x
      have hc0 := hc 0 (by omega)
      have hspot : spot = none := by simpa [Addr.add] using World.cell?_spot hc0
      subst hspot
      have hlt := lt_of_cell hc0
      refine .inr ⟨b, off, rfl, by simpa [Addr.add] using hlt, fun i hi => ?_⟩
      have := hc i (by omega)
      rw [add_plain] at this
      rw [this, List.getD_eq_getElem?_getD, List.getD_eq_getElem?_getD, List.getElem?_take, if_pos hi]

set_option maxHeartbeats 4000000 in
theorem walk_itemAt (t : Tree) (a : Option Addr) (c : Nat) (ap : Option Addr) (n cp : Nat) (zs0 : List Int) (w : World) (hA : At w (· < w.heap.size) t a c) (hF : Wf t) (hz : IsRow .i64 w ap n cp zs0) (hbulk : (t.count + t.letters) ≤ 1048576) :
    Calls Try.prog 9 #[val t a c, .slice ap n cp] w fun e w' => e = .returned (.bool true) ∧ Below w.heap.size w w' := by
  have hN : t.count ≤ 1000000000 := by omega
  obtain ⟨hZ, hn1, hn2⟩ := hz.nums
  generalize zs0.take n = zs at hZ
  have hbx := boxed (w := w) (k := t.kind) (n := t.num) (s := t.text) (L := .slice a t.list.length c)
  generalize hW : w.alloc (.cells #[.int .i64 t.kind, .int .i64 t.num, .string t.text, .slice a t.list.length c] 26) = W1 at hbx
  have hA1 : At W1 (· < W1.heap.size) t a c := by rw [← hW]; exact at_alloc hA _
  have hb1 : Below w.heap.size w W1 := by rw [← hW]; exact (Below.refl _ _).alloc (Nat.le_refl _) _
  have hg : w.heap.size < W1.heap.size := hbx.lt
  have HBX := Lib.hid hbx
  have HB1 := Lib.hid hb1
  have HWW := Lib.hid hW
  have HA := Lib.hid hA1
  have HLONG : Hid (Calls Try.prog 16 #[val t a c] W1 (RetQ W1 (Long t))) := long16 t a c W1 hA1 hN
  have HKN : Hid (∀ W, Calls Try.prog 12 #[] W (Ret1 W (.bool true))) := fun W => known12 W
  have hr : ∃ r : Tree × Int, (Fits t 20 ∧ r = atE t zs) ∨ (¬ Fits t 20 ∧ r = (nul, 2)) := by
    by_cases hf : Fits t 20
    · exact ⟨_, .inl ⟨hf, rfl⟩⟩
    · exact ⟨_, .inr ⟨hf, rfl⟩⟩
  obtain ⟨⟨ru, re⟩, hr⟩ := hr
  have HZ1 : Hid (∀ W, Below W1.heap.size W1 W → Nums W W.heap.size ap n zs) := fun W hb => by
    have h1 := (hZ.below hb1).below (hb.mono hb1.size)
    refine ⟨h1.1, ?_⟩
    rcases h1.2 with h0 | ⟨b, off, e, hbb, hc⟩
    · exact .inl h0
    · exact .inr ⟨b, off, e, by have := hb1.size; have := hb.size; omega, hc⟩
  have HA31 : Hid (∀ W, Below W1.heap.size W1 W → Calls Try.prog 31 #[val t a c, .slice ap n cp] W (RetAt W (ru, re))) := fun W hb => at31_calls t a c ap n cp zs W (ru, re) (at_later hA1 hb) hN (HZ1.out W hb) (by omega) hr
  have HA32 : Hid (∀ W, Below W1.heap.size W1 W → Calls Try.prog 32 #[val t a c, .slice ap n cp] W (RetAt W (ru, re))) := fun W hb => refAt32_calls t a c ap n cp zs W (ru, re) (at_later hA1 hb) hN (HZ1.out W hb) (by omega) hr
  have HSM : Hid (∀ a2 c2 a3 c3 W, At W (· < W.heap.size) ru a2 c2 → At W (· < W.heap.size) ru a3 c3 → Calls Try.prog 15 #[val ru a2 c2, val ru a3 c3] W (RetQ W (ru = ru))) := fun a2 c2 a3 c3 W h h' => refSame15_calls ru.count ru ru a2 a3 c2 c3 W (Nat.le_refl _) h h'
  unfold val at HLONG HSM ⊢
  unfold RetAt val at HA31 HA32
  clear hA hA1 hbx hb1 hW hbulk hr hZ hz
  go_enter Try.func9, Try.ntmps9
  go_wp2_with fail
  rw [HWW.out]
  refine HLONG.out.mono ?_
  rintro e w2 ⟨br, rfl, _, hb2⟩
  have HB2 := Lib.hid hb2
  have hk2 := HBX.out.below hb2 hg
  have HK2 := Lib.hid hk2
  have hs2 := hb2.size
  have hc0 := hk2.c0
  have hc1 := hk2.c1
  have hc2 := hk2.c2
  have hc3 := hk2.c3
  have hg2 : w.heap.size < w2.heap.size := by omega
  clear hb2 hk2
  cases br with
  | true =>
    go_wp2_with fail
    refine (HKN.out _).mono ?_
    rintro e w3 ⟨rfl, hb3⟩
    have HB3 : Hid (Below w.heap.size w w3) := HB1.out.trans ((HB2.out.trans (hb3.mono hs2)).mono (by omega))
    clear hb3
    go_wp2_with fail
    go_ret
    exact ⟨rfl, HB3.out⟩
  | false =>
    by_cases hp : 60 < n
    · have hp' : (60 : Int) < (n : Int) := by omega
      go_wp2_with fail
      refine (HKN.out _).mono ?_
      rintro e w3 ⟨rfl, hb3⟩
      have HB3 : Hid (Below w.heap.size w w3) := HB1.out.trans ((HB2.out.trans (hb3.mono hs2)).mono (by omega))
      clear hb3
      go_wp2_with fail
      go_ret
      exact ⟨rfl, HB3.out⟩
    · have hp' : ¬ ((60 : Int) < (n : Int)) := by omega
      go_wp2_with fail
      refine (HA31.out w2 HB2.out).mono ?_
      rintro e w3 ⟨a3, c3, rfl, hA3, hb3⟩
      have HB3 : Hid (Below W1.heap.size W1 w3) := HB2.out.trans (hb3.mono hs2)
      have hs3 := hb3.size
      have hk3 := HK2.out.below hb3 hg2
      have HK3 := Lib.hid hk3
      have hc03 := hk3.c0
      have hc13 := hk3.c1
      have hc23 := hk3.c2
      have hc33 := hk3.c3
      have hg3 : w.heap.size < w3.heap.size := by omega
      have hfz : ∀ (C : Array Value) (i : Nat), (w3.alloc (.cells C 26)).frozen? ⟨w3.heap.size, i, none⟩ = false := fun C i => World.frozen?_alloc_at C 26 _ i rfl
      have HA3 := Lib.hid hA3
      clear hb3 hk3 hA3
      go_wp2_with fail
      try case isTrue => exact absurd ‹World.frozen? _ _ = true› (by rw [hfz]; decide)
      generalize hW4 : World.alloc w3 _ = w4
      have hk4 : Blk w4 w3.heap.size 26 #[.int .i64 ru.kind, .int .i64 ru.num, .string ru.text, .slice a3 ru.list.length c3] := by rw [← hW4]; exact Blk.new w3 26 _
      have hk4x : Blk w4 w.heap.size 26 #[.int .i64 t.kind, .int .i64 t.num, .string t.text, .slice a t.list.length c] := by rw [← hW4]; exact HK3.out.alloc _
      have HB4 : Hid (Below W1.heap.size W1 w4) := by unfold Hid; rw [← hW4]; exact HB3.out.alloc HB3.out.size _
      have HA4 : Hid (At w4 (· < w4.heap.size) ru a3 c3) := by unfold Hid; rw [← hW4]; exact at_alloc HA3.out _
      have hs4 : w4.heap.size = w3.heap.size + 1 := by rw [← hW4]; simp
      have HK4 := Lib.hid hk4
      have HK4x := Lib.hid hk4x
      clear hW4 hk4 hk4x hfz
      refine (HA32.out w4 HB4.out).mono ?_
      rintro e w5 ⟨a5, c5, rfl, hA5, hb5⟩
      have HB5 : Hid (Below W1.heap.size W1 w5) := HB4.out.trans (hb5.mono HB4.out.size)
      have hs5 := hb5.size
      have hk5 := HK4.out.below hb5 (by omega)
      have HK5 := Lib.hid hk5
      have hc05 := hk5.c0
      have hc15 := hk5.c1
      have hc25 := hk5.c2
      have hc35 := hk5.c3
      have hfz : ∀ (C : Array Value) (i : Nat), (w5.alloc (.cells C 26)).frozen? ⟨w5.heap.size, i, none⟩ = false := fun C i => World.frozen?_alloc_at C 26 _ i rfl
      have HA5 := Lib.hid hA5
      have HA45 : Hid (At w5 (· < w5.heap.size) ru a3 c3) := at_later HA4.out hb5
      have hg5 : w3.heap.size < w5.heap.size := by omega
      clear hb5 hk5 hA5
      go_wp2_with fail
      try case isTrue => exact absurd ‹World.frozen? _ _ = true› (by rw [hfz]; decide)
      refine (HSM.out a3 c3 a5 c5 _ (at_alloc HA45.out _) (at_alloc HA5.out _)).mono ?_
      rintro e w6 ⟨br, rfl, hbr, hb6⟩
      have hbt : br = true := hbr.2 (by trivial)
      subst hbt
      have HB6 : Hid (Below W1.heap.size W1 w6) := (HB5.out.alloc HB5.out.size _).trans (hb6.mono (by have := HB5.out.size; simp; omega))
      clear hb6 hbr
      go_wp2_with fail
      refine (HKN.out _).mono ?_
      rintro e w7 ⟨rfl, hb7⟩
      have HB7 : Hid (Below w.heap.size w w7) := HB1.out.trans ((HB6.out.trans (hb7.mono HB6.out.size)).mono HB1.out.size)
      clear hb7
      go_wp2_with fail
      go_ret
      exact ⟨rfl, HB7.out⟩
end Go.Proofs.Ytkmikpmbnfcbpaa
