/- Contracts of the reference's Encode; what a law's last region keeps. -/
import Derived.Test.YtkmikpmbnfcbpaaGs
import Derived.Deep.RegionHeld3
namespace Go.Proofs.Ytkmikpmbnfcbpaa
open Go.RowKit Go.Lib
set_option linter.unusedVariables false
open Tree Anyv

set_option maxHeartbeats 1000000 in
theorem refEncode23_no (t : Tree) (a : Option Addr) (c : Nat) (w : World) (hA : At w (· < w.heap.size) t a c) (hN : t.count ≤ 1000000000) (hf : ¬ Fits t 20) :
    Calls Try.prog 23 #[val t a c] w (Ret1 w (.tuple #[.slice none 0 0, .int .i64 2])) := by
  have HC : Hid (∀ W, W = w.alloc (.cells #[.int .i64 t.kind, .int .i64 t.num, .string t.text, .slice a t.list.length c] 26) → Calls Try.prog 25 #[val t a c] W (Ret1 W (.int .i64 2))) := fun W e => by
    subst e
    exact refCheck25 t a c _ 2 (at_alloc hA _) hN (.inr ⟨hf, rfl⟩)
  unfold val at HC ⊢
  clear hf hA
  go_enter Try.func23, Try.ntmps23
  go_wp2_with fail
  refine (HC.out _ rfl).mono ?_
  rintro e w2 ⟨rfl, hb⟩
  have HB : Hid (Below w.heap.size w w2) := ((Below.refl _ _).alloc (Nat.le_refl _) _).trans (hb.mono (by simp))
  clear hb
  go_wp2_with fail
  go_ret2
  exact ⟨rfl, HB.out⟩

set_option maxHeartbeats 1000000 in
theorem refEncode23_yes (t : Tree) (a : Option Addr) (c : Nat) (w : World) (hA : At w (· < w.heap.size) t a c) (hf : Fits t 20) (hl : (enc t).length ≤ 100000000000) :
    Calls Try.prog 23 #[val t a c] w (RetB2 w (enc t)) := by
  have HC : Hid (∀ W, W = w.alloc (.cells #[.int .i64 t.kind, .int .i64 t.num, .string t.text, .slice a t.list.length c] 26) → Calls Try.prog 25 #[val t a c] W (Ret1 W (.int .i64 0))) := fun W e => by
    subst e
    exact refCheck25 t a c _ 0 (at_alloc hA _) (by have := hf.2.2; omega) (.inl ⟨hf, rfl⟩)
  have HA := Lib.hid hA
  have HF := Lib.hid hf
  have HL := Lib.hid hl
  have HE : Hid (∀ W, Below w.heap.size w W → Calls Try.prog 47 #[val t a c] W (RetB W (enc t))) := fun W hb => bytes_calls t.count t a c W (Nat.le_refl _) HF.out.1 (at_later HA.out hb) HL.out
  unfold val at HC HE ⊢
  clear hf hA hl
  go_enter Try.func23, Try.ntmps23
  go_wp2_with fail
  refine (HC.out _ rfl).mono ?_
  rintro e w2 ⟨rfl, hb⟩
  have HB : Hid (Below w.heap.size w w2) := ((Below.refl _ _).alloc (Nat.le_refl _) _).trans (hb.mono (by simp))
  have hbx := boxed.below (B := w.heap.size + 1) (by simpa using hb) (by omega)
  have hc0 := hbx.c0
  have hc1 := hbx.c1
  have hc2 := hbx.c2
  have hc3 := hbx.c3
  clear hb hbx
  go_wp2_with fail
  refine (HE.out w2 HB.out).mono ?_
  rintro e w3 ⟨v, rfl, hO, hb3⟩
  have HO := Lib.hid (hO.base HB.out.size)
  have HB3 : Hid (Below w.heap.size w w3) := HB.out.trans (hb3.mono HB.out.size)
  clear hO hb3
  go_wp2_with fail
  go_ret2
  exact ⟨v, rfl, HO.out, HB3.out⟩

/-- What a law's last region keeps: all that was there, and a box's four cells. -/
theorem held_of {w W : World} {g : Nat} {a b c d : Value} (hk : Blk w g 26 #[a, b, c, d]) (hb : Below w.heap.size w W) :
    Below w.heap.size w W ∧ W.cell? ⟨g, 0, none⟩ = some a ∧ W.cell? ⟨g, 1, none⟩ = some b ∧ W.cell? ⟨g, 2, none⟩ = some c ∧ W.cell? ⟨g, 3, none⟩ = some d :=
  ⟨hb, (hk.below hb hk.lt).c0, (hk.below hb hk.lt).c1, (hk.below hb hk.lt).c2, (hk.below hb hk.lt).c3⟩
theorem calls_held {w W : World} {g n : Nat} {a b c d : Value} {args : Array Value} {Q : Ending → Prop} (hk : Blk w g 26 #[a, b, c, d]) (hb : Below w.heap.size w W) (h : Calls Try.prog n args W fun e w' => Q e ∧ Below W.heap.size W w') :
    Calls Try.prog n args W fun e w' => Q e ∧ (Below w.heap.size w w' ∧ w'.cell? ⟨g, 0, none⟩ = some a ∧ w'.cell? ⟨g, 1, none⟩ = some b ∧ w'.cell? ⟨g, 2, none⟩ = some c ∧ w'.cell? ⟨g, 3, none⟩ = some d) :=
  h.mono fun e w' h => ⟨h.1, held_of hk (hb.trans (h.2.mono hb.size))⟩
theorem same_held {w W : World} {a a' : Option Addr} {n n' c c' : Nat} {bs : List UInt8} (h : Byt w w.heap.size a n bs) (h' : Byt w w.heap.size a' n' bs) (hb : Below w.heap.size w W) :
    Calls Try.prog 22 #[.slice a n c, .slice a' n' c'] W fun e w' => e = .returned (.bool true) ∧ Below W.heap.size W w' := by
  have := same22 W w.heap.size w.heap.size a a' n n' c c' bs bs (h.below hb) (h'.below hb)
  rw [beq_self_eq_true] at this
  exact this.mono fun e w' h => ⟨h.1, by rw [← h.2]; exact Below.refl _ _⟩
end Go.Proofs.Ytkmikpmbnfcbpaa
