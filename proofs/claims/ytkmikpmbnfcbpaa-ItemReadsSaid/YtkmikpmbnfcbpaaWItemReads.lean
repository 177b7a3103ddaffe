/- ItemReads: the walk. -/
import Derived.Test.YtkmikpmbnfcbpaaHr
namespace Go.Proofs.Ytkmikpmbnfcbpaa
open Go.RowKit Go.Lib
set_option linter.unusedVariables false
open Tree

theorem dec_same {bs : List UInt8} {t u : Tree} {e f : Int} (hs : bs.length ≤ 4294967295) (h : Dec bs t e) (k : Dec bs u f) : t = u ∧ e = f := by
  rcases h with ⟨rfl, h1, h2, h3⟩ | ⟨rfl, rfl, h3⟩
  · rcases k with ⟨rfl, k1, k2, k3⟩ | ⟨rfl, rfl, k3⟩
    · exact ⟨(enc_prefix t.count t u [] [] (Nat.le_refl _) h1.1 k1.1 h2 k2 (by rw [h3]; exact hs) (by rw [k3]; exact hs) (by rw [h3, k3])).1, rfl⟩
    · exact absurd h3 (k3 t h1 h2)
  · rcases k with ⟨rfl, k1, k2, k3⟩ | ⟨rfl, rfl, k3⟩
    · exact absurd k3 (h3 u k1 k2)
    · exact ⟨rfl, rfl⟩

set_option maxHeartbeats 2000000 in
theorem walk_itemReads (a0 : Option Addr) (len0 cap0 : Nat) (z0 : List Int) (w : World) (w0 : IsRow .u8 w a0 len0 cap0 z0) :
    Calls Try.prog 3 #[.slice a0 len0 cap0] w fun e w' => e = .returned (.bool true) ∧ Below w.heap.size w w' := by
  obtain ⟨bs, hB, h1, h2⟩ := w0.byt
  have HB := Lib.hid hB
  have HKN : Hid (∀ W, Calls Try.prog 12 #[] W (Ret1 W (.bool true))) := fun W => known12 W
  by_cases hl : 2000 < len0
  · have hz : (2000 : Int) < (len0 : Int) := by omega
    clear hB w0
    go_enter Try.func3, Try.ntmps3
    go_wp2_with fail
    refine (HKN.out _).mono ?_
    rintro e w2 ⟨rfl, hb2⟩
    have HB2 := Lib.hid hb2
    clear hb2
    go_wp2_with fail
    go_ret
    exact ⟨rfl, HB2.out⟩
  · have hz : ¬ ((2000 : Int) < (len0 : Int)) := by omega
    have HLN : Hid (bs.length = len0) := hB.1
    have HD1 : Hid (Calls Try.prog 13 #[.slice a0 len0 cap0] w (RetD w bs)) := decode13 w a0 len0 cap0 bs hB h1 h2 (by omega)
    have HD2 : Hid (∀ W, Below w.heap.size w W → Calls Try.prog 14 #[.slice a0 len0 cap0] W (RetD W bs)) := fun W hb => refDecode14 W a0 len0 cap0 bs ((hB.below hb).more hb.size) h1 h2 (by omega)
    have HSM : Hid (∀ t a2 c2 a3 c3 W, At W (· < W.heap.size) t a2 c2 → At W (· < W.heap.size) t a3 c3 → Calls Try.prog 15 #[val t a2 c2, val t a3 c3] W (RetQ W (t = t))) := fun t a2 c2 a3 c3 W h h' => refSame15_calls t.count t t a2 a3 c2 c3 W (Nat.le_refl _) h h'
    clear hB w0
    go_enter Try.func3, Try.ntmps3
    go_wp2_with fail
    refine HD1.out.mono ?_
    rintro e w2 ⟨t, a, c, r, rfl, hAt, hb2, hdec⟩
    have HB2 := Lib.hid hb2
    have HA2 : Hid (At w2 (· < w2.heap.size) t a c) := hAt.imp fun b hb => hb.2
    have HDE := Lib.hid hdec
    have hs2 := hb2.size
    have hfz : ∀ (C : Array Value) (i : Nat), (w2.alloc (.cells C 26)).frozen? ⟨w2.heap.size, i, none⟩ = false := fun C i => World.frozen?_alloc_at C 26 _ i rfl
    clear hb2 hAt hdec
    unfold val
    go_wp2_with fail
    try case isTrue => exact absurd ‹World.frozen? _ _ = true› (by rw [hfz]; decide)
    generalize hW4 : World.alloc w2 _ = w4
    have hk4 : Blk w4 w2.heap.size 26 #[.int .i64 t.kind, .int .i64 t.num, .string t.text, .slice a t.list.length c] := by rw [← hW4]; exact Blk.new w2 26 _
    have HB4 : Hid (Below w.heap.size w w4) := by unfold Hid; rw [← hW4]; exact HB2.out.alloc HB2.out.size _
    have HA4 : Hid (At w4 (· < w4.heap.size) t a c) := by unfold Hid; rw [← hW4]; exact at_alloc HA2.out _
    have hs4 : w4.heap.size = w2.heap.size + 1 := by rw [← hW4]; simp
    have HK4 := Lib.hid hk4
    clear hW4 hk4 hfz
    refine (HD2.out w4 HB4.out).mono ?_
    rintro e w5 ⟨u, a5, c5, r5, rfl, hA5, hb5, hd5⟩
    obtain ⟨rfl, rfl⟩ := dec_same (by have := HLN.out; omega) HDE.out hd5
    have HB5 : Hid (Below w.heap.size w w5) := HB4.out.trans (hb5.mono HB4.out.size)
    have hs5 := hb5.size
    have hk5 := HK4.out.below hb5 (by omega)
    have hc05 := hk5.c0
    have hc15 := hk5.c1
    have hc25 := hk5.c2
    have hc35 := hk5.c3
    have hfz : ∀ (C : Array Value) (i : Nat), (w5.alloc (.cells C 26)).frozen? ⟨w5.heap.size, i, none⟩ = false := fun C i => World.frozen?_alloc_at C 26 _ i rfl
    have HA5 : Hid (At w5 (· < w5.heap.size) t a5 c5) := hA5.imp fun b hb => hb.2
    have HA45 : Hid (At w5 (· < w5.heap.size) t a c) := at_later HA4.out hb5
    have hg5 : w2.heap.size < w5.heap.size := by omega
    have HSM2 := Lib.hid (HSM.out t a c a5 c5)
    unfold val at HSM2 ⊢
    clear hb5 hk5 hA5 hd5
    go_wp2_with fail
    try case isTrue => exact absurd ‹World.frozen? _ _ = true› (by rw [hfz]; decide)
    refine (HSM2.out _ (at_alloc HA45.out _) (at_alloc HA5.out _)).mono ?_
    rintro e w6 ⟨br, rfl, hbr, hb6⟩
    have hbt : br = true := hbr.2 (by trivial)
    subst hbt
    have HB6 : Hid (Below w.heap.size w w6) := (HB5.out.alloc HB5.out.size _).trans (hb6.mono (by have := HB5.out.size; simp; omega))
    clear hb6 hbr
    go_wp2_with fail
    refine (HKN.out _).mono ?_
    rintro e w7 ⟨rfl, hb7⟩
    have HB7 : Hid (Below w.heap.size w w7) := HB6.out.trans (hb7.mono HB6.out.size)
    clear hb7
    go_wp2_with fail
    go_ret
    exact ⟨rfl, HB7.out⟩
end Go.Proofs.Ytkmikpmbnfcbpaa
