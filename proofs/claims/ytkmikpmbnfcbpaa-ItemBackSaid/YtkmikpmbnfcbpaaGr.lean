/- Contracts of the reference's Check, and of long. -/
import Derived.Test.YtkmikpmbnfcbpaaGq
namespace Go.Proofs.Ytkmikpmbnfcbpaa
open Go.RowKit Go.Lib
set_option linter.unusedVariables false
open Tree Anyv

theorem at_alloc {w : World} {t : Tree} {a : Option Addr} {c : Nat} (hA : At w (· < w.heap.size) t a c) (o : Obj) : At (w.alloc o) (· < (w.alloc o).heap.size) t a c := (hA.below ((Below.refl _ _).alloc (Nat.le_refl _) _)).more (by simp)
theorem at_later {w w' : World} {t : Tree} {a : Option Addr} {c : Nat} (hA : At w (· < w.heap.size) t a c) (hb : Below w.heap.size w w') : At w' (· < w'.heap.size) t a c := (hA.below hb).more hb.size

set_option maxHeartbeats 2000000 in
theorem refCheck25 (t : Tree) (a : Option Addr) (c : Nat) (w : World) (r : Int) (hA : At w (· < w.heap.size) t a c) (hN : t.count ≤ 1000000000) (h : (Fits t 20 ∧ r = 0) ∨ (¬ Fits t 20 ∧ r = 2)) :
    Calls Try.prog 25 #[val t a c] w (Ret1 w (.int .i64 r)) := by
  have hbx := boxed (w := w) (k := t.kind) (n := t.num) (s := t.text) (L := .slice a t.list.length c)
  generalize hW : w.alloc (.cells #[.int .i64 t.kind, .int .i64 t.num, .string t.text, .slice a t.list.length c] 26) = W1 at hbx
  have hA1 : At W1 (· < W1.heap.size) t a c := by rw [← hW]; exact at_alloc hA _
  have hb1 : Below w.heap.size w W1 := by rw [← hW]; exact (Below.refl _ _).alloc (Nat.le_refl _) _
  have HBX := Lib.hid hbx
  have hg : w.heap.size < W1.heap.size := hbx.lt
  have HB1 := Lib.hid hb1
  have HWW := Lib.hid hW
  have HR : Hid (Calls Try.prog 49 #[val t a c] W1 (RetQ W1 (Right t))) := right_calls t.count t a c W1 (Nat.le_refl _) hA1
  have HD : Hid (∀ W, Below W1.heap.size W1 W → Calls Try.prog 40 #[val t a c] W fun e w' => e = .returned (.int .i64 t.depth) ∧ Below W.heap.size W w') := fun W hb => deep_calls t.count t a c W (Nat.le_refl _) hN (at_later hA1 hb)
  have HC : Hid (∀ W, Below W1.heap.size W1 W → Calls Try.prog 41 #[val t a c] W fun e w' => e = .returned (.int .i64 t.count) ∧ Below W.heap.size W w') := fun W hb => count_calls t.count t a c W (Nat.le_refl _) hN (at_later hA1 hb)
  have HF : Hid (Fits t 20 ↔ Right t ∧ t.depth ≤ 20 ∧ t.count ≤ 20000) := by unfold Hid Fits; constructor <;> rintro ⟨h1, h2, h3⟩ <;> exact ⟨h1, by omega, h3⟩
  obtain ⟨p, hp⟩ : ∃ p, p = Right t := ⟨_, rfl⟩
  rw [← hp] at HR HF
  unfold val at HR HD HC ⊢
  have H := Lib.hid h
  have hdc : t.depth ≤ t.count := depth_count t
  clear h hA hA1 hp hbx hb1 hW
  generalize t.depth = dd at HD HF H hdc
  generalize t.count = nn at HC HF H hdc hN
  go_enter Try.func25, Try.ntmps25
  go_wp2_with fail
  rw [HWW.out]
  refine HR.out.mono ?_
  rintro e w2 ⟨br, rfl, hbr, hb2⟩
  have HB2 := Lib.hid hb2
  have hk2 := HBX.out.below hb2 hg
  have HK2 := Lib.hid hk2
  have hc0 := hk2.c0
  have hc1 := hk2.c1
  have hc2 := hk2.c2
  have hc3 := hk2.c3
  have hs2 := hb2.size
  have hgg2 : w.heap.size < w2.heap.size := by omega
  clear hb2 hk2
  cases br with
  | false =>
    have hno : ¬ Fits t 20 := fun hf => by have := hbr.2 (HF.out.1 hf).1; simp at this
    have hr : r = 2 := by rcases H.out with h | h; exact absurd h.1 hno; exact h.2
    subst hr
    clear hbr hno
    go_wp2_with fail
    go_ret
    exact ⟨rfl, HB1.out.trans (HB2.out.mono HB1.out.size)⟩
  | true =>
    have HP : Hid p := hbr.1 rfl
    clear hbr
    go_wp2_with fail
    refine (HD.out w2 HB2.out).mono ?_
    rintro e w3 ⟨rfl, hb3⟩
    have HB3 : Hid (Below W1.heap.size W1 w3) := HB2.out.trans (hb3.mono hs2)
    have hk3 := HK2.out.below hb3 hgg2
    have hc03 := hk3.c0
    have hc13 := hk3.c1
    have hc23 := hk3.c2
    have hc33 := hk3.c3
    have hs3 := hb3.size
    have hgg3 : w.heap.size < w3.heap.size := by omega
    clear hb3 hk3
    by_cases hd : dd ≤ 20
    · have hd' : ¬ ((20 : Int) < (dd : Int)) := by omega
      go_wp2_with fail
      refine (HC.out w3 HB3.out).mono ?_
      rintro e w4 ⟨rfl, hb4⟩
      have HB4 : Hid (Below w.heap.size w w4) := HB1.out.trans ((HB3.out.trans (hb4.mono HB3.out.size)).mono HB1.out.size)
      clear hb4
      by_cases hn : nn ≤ 20000
      · have hn' : ¬ ((20000 : Int) < (nn : Int)) := by omega
        have hr : r = 0 := by
          rcases H.out with h | h
          · exact h.2
          · exact absurd (HF.out.2 ⟨HP.out, hd, hn⟩) h.1
        subst hr
        go_wp2_with fail
        go_ret
        exact ⟨rfl, HB4.out⟩
      · have hn' : (20000 : Int) < (nn : Int) := by omega
        have hr : r = 2 := by
          rcases H.out with h | h
          · exact absurd (HF.out.1 h.1).2.2 hn
          · exact h.2
        subst hr
        go_wp2_with fail
        go_ret
        exact ⟨rfl, HB4.out⟩
    · have hd' : (20 : Int) < (dd : Int) := by omega
      have hr : r = 2 := by
        rcases H.out with h | h
        · exact absurd (HF.out.1 h.1).2.1 hd
        · exact h.2
      subst hr
      go_wp2_with fail
      go_ret
      exact ⟨rfl, HB1.out.trans (HB3.out.mono HB1.out.size)⟩

/-- More than is looked at. -/
def Long (t : Tree) : Prop := 60 < t.depth ∨ 300 < t.count
set_option maxHeartbeats 2000000 in
theorem long16 (t : Tree) (a : Option Addr) (c : Nat) (w : World) (hA : At w (· < w.heap.size) t a c) (hN : t.count ≤ 1000000000) :
    Calls Try.prog 16 #[val t a c] w (RetQ w (Long t)) := by
  have hbx := boxed (w := w) (k := t.kind) (n := t.num) (s := t.text) (L := .slice a t.list.length c)
  generalize hW : w.alloc (.cells #[.int .i64 t.kind, .int .i64 t.num, .string t.text, .slice a t.list.length c] 26) = W1 at hbx
  have hA1 : At W1 (· < W1.heap.size) t a c := by rw [← hW]; exact at_alloc hA _
  have hb1 : Below w.heap.size w W1 := by rw [← hW]; exact (Below.refl _ _).alloc (Nat.le_refl _) _
  have HBX := Lib.hid hbx
  have hg : w.heap.size < W1.heap.size := hbx.lt
  have HB1 := Lib.hid hb1
  have HWW := Lib.hid hW
  have HD : Hid (∀ W, W = W1 → Calls Try.prog 40 #[val t a c] W fun e w' => e = .returned (.int .i64 t.depth) ∧ Below W.heap.size W w') := fun W e => by subst e; exact deep_calls t.count t a c W (Nat.le_refl _) hN hA1
  have HC : Hid (∀ W, Below W1.heap.size W1 W → Calls Try.prog 41 #[val t a c] W fun e w' => e = .returned (.int .i64 t.count) ∧ Below W.heap.size W w') := fun W hb => count_calls t.count t a c W (Nat.le_refl _) hN (at_later hA1 hb)
  have HF : Hid (Long t ↔ 60 < t.depth ∨ 300 < t.count) := Iff.rfl
  obtain ⟨p, hp⟩ : ∃ p, p = Long t := ⟨_, rfl⟩
  rw [← hp] at HF ⊢
  unfold val at HD HC ⊢
  have hdc : t.depth ≤ t.count := depth_count t
  clear hA hA1 hp hbx hb1 hW
  generalize t.depth = dd at HD HF hdc
  generalize t.count = nn at HC HF hdc hN
  go_enter Try.func16, Try.ntmps16
  go_wp2_with fail
  refine (HD.out _ HWW.out).mono ?_
  rw [HWW.out]
  rintro e w3 ⟨rfl, hb3⟩
  have HB3 := Lib.hid hb3
  have hk3 := HBX.out.below hb3 hg
  have hc03 := hk3.c0
  have hc13 := hk3.c1
  have hc23 := hk3.c2
  have hc33 := hk3.c3
  have hs3 := hb3.size
  have hgg3 : w.heap.size < w3.heap.size := by omega
  clear hb3 hk3
  by_cases hd : dd ≤ 60
  · have hd' : ¬ ((60 : Int) < (dd : Int)) := by omega
    go_wp2_with fail
    refine (HC.out w3 HB3.out).mono ?_
    rintro e w4 ⟨rfl, hb4⟩
    have HB4 : Hid (Below w.heap.size w w4) := HB1.out.trans ((HB3.out.trans (hb4.mono HB3.out.size)).mono HB1.out.size)
    clear hb4
    by_cases hn : nn ≤ 300
    · have hn' : ¬ ((300 : Int) < (nn : Int)) := by omega
      go_wp2_with fail
      go_ret
      refine ⟨_, rfl, ?_, HB4.out⟩
      rw [HF.out]; simp; omega
    · have hn' : (300 : Int) < (nn : Int) := by omega
      go_wp2_with fail
      go_ret
      refine ⟨_, rfl, ?_, HB4.out⟩
      rw [HF.out]; simp; omega
  · have hd' : (60 : Int) < (dd : Int) := by omega
    go_wp2_with fail
    go_ret
    exact retQ_yes (HF.out.2 (by omega)) (HB1.out.trans (HB3.out.mono HB1.out.size))
end Go.Proofs.Ytkmikpmbnfcbpaa
