/- The contract of the reference's Kinds; Ints and Texts in one form. -/
import Derived.Test.YtkmikpmbnfcbpaaGz
namespace Go.Proofs.Ytkmikpmbnfcbpaa
open Go.RowKit Go.Lib
set_option linter.unusedVariables false
open Tree Anyv

/-- Why a list is none of one kind, as a number. -/
def KindR (t : Tree) (k r : Int) : Prop := (¬ Fits t 20 ∧ r = 2) ∨ (Fits t 20 ∧ t.kind ≠ 3 ∧ r = 20) ∨ (Fits t 20 ∧ t.kind = 3 ∧ (¬ ∀ (i : Nat) (h : i < t.list.length), t.list[i].kind = k) ∧ r = 20) ∨
  (Fits t 20 ∧ t.kind = 3 ∧ (∀ (i : Nat) (h : i < t.list.length), t.list[i].kind = k) ∧ r = 0)
theorem kindR_some (t : Tree) (k : Int) : ∃ r, KindR t k r := by
  by_cases h1 : Fits t 20
  · by_cases h2 : t.kind = 3
    · by_cases h3 : ∀ (i : Nat) (h : i < t.list.length), t.list[i].kind = k
      · exact ⟨0, .inr (.inr (.inr ⟨h1, h2, h3, rfl⟩))⟩
      · exact ⟨20, .inr (.inr (.inl ⟨h1, h2, h3, rfl⟩))⟩
    · exact ⟨20, .inr (.inl ⟨h1, h2, rfl⟩)⟩
  · exact ⟨2, .inl ⟨h1, rfl⟩⟩
def RetK (w : World) (t : Tree) (f : Tree → Value) (r : Int) (e : Ending) (w' : World) : Prop :=
  ∃ (A : Option Addr) (n c : Nat), e = .returned (.tuple #[.slice A n c, .int .i64 r]) ∧ ((r = 0 ∧ n = t.list.length) ∨ (r ≠ 0 ∧ n = 0)) ∧
    (n = 0 ∨ ∃ g, A = some ⟨g, 0, none⟩ ∧ g < w'.heap.size ∧ ∀ i (h : i < t.list.length), i < n → w'.cell? ⟨g, i, none⟩ = some (f t.list[i])) ∧ Below w.heap.size w w'
theorem retK_err {w w' : World} {t : Tree} {f : Tree → Value} {r : Int} {e : Ending} (hr : r ≠ 0) (h : Ret1 w (.tuple #[.slice none 0 0, .int .i64 r]) e w') : RetK w t f r e w' :=
  ⟨none, 0, 0, h.1, .inr ⟨hr, rfl⟩, .inl rfl, h.2⟩
theorem retK_ok {w w' : World} {t : Tree} {f : Tree → Value} {E : TypeId} {e : Ending} (h : ∃ v, e = .returned (.tuple #[v, .int .i64 0]) ∧ w'.ownsRow w.heap.size E 1 v t.list.length (t.list.map f) ∧ Below w.heap.size w w') : RetK w t f 0 e w' := by
  obtain ⟨v, rfl, ho, hb⟩ := h
  rcases ho.2 with ⟨rfl, h0⟩ | ⟨g, cap, cur, rfl, _, hg, _⟩
  · exact ⟨none, t.list.length, 0, by rw [h0], .inl ⟨rfl, rfl⟩, .inl h0, hb⟩
  · refine ⟨_, _, _, rfl, .inl ⟨rfl, rfl⟩, .inr ⟨g, rfl, (Array.getElem?_eq_some_iff.1 hg).1, fun i hi _ => ?_⟩, hb⟩
    have := World.ownsRow.cells ho (g := g) rfl i (f t.list[i]) (by rw [List.getElem?_map, List.getElem?_eq_getElem hi]; rfl)
    rwa [add_plain, Nat.zero_add] at this
theorem ints_k (t : Tree) (a : Option Addr) (c : Nat) (w : World) (r : Int) (hA : At w (· < w.heap.size) t a c) (h : KindR t 1 r) : Calls Try.prog 26 #[val t a c] w (RetK w t (fun u => .int .i64 u.num) r) := by
  rcases h with ⟨h1, rfl⟩ | ⟨h1, h2, rfl⟩ | ⟨h1, h2, h3, rfl⟩ | ⟨h1, h2, h3, rfl⟩
  · exact (ints26_err t a c w 2 hA (.inl ⟨h1, rfl⟩)).mono fun _ _ h => retK_err (by omega) h
  · exact (ints26_err t a c w 20 hA (.inr (.inl ⟨h1, h2, rfl⟩))).mono fun _ _ h => retK_err (by omega) h
  · exact (ints26_err t a c w 20 hA (.inr (.inr ⟨h1, h2, h3, rfl⟩))).mono fun _ _ h => retK_err (by omega) h
  · exact (ints26_yes t a c w hA h1 h2 h3).mono fun _ _ h => retK_ok h
theorem texts_k (t : Tree) (a : Option Addr) (c : Nat) (w : World) (r : Int) (hA : At w (· < w.heap.size) t a c) (h : KindR t 2 r) : Calls Try.prog 27 #[val t a c] w (RetK w t (fun u => .string u.text) r) := by
  rcases h with ⟨h1, rfl⟩ | ⟨h1, h2, rfl⟩ | ⟨h1, h2, h3, rfl⟩ | ⟨h1, h2, h3, rfl⟩
  · exact (texts27_err t a c w 2 hA (.inl ⟨h1, rfl⟩)).mono fun _ _ h => retK_err (by omega) h
  · exact (texts27_err t a c w 20 hA (.inr (.inl ⟨h1, h2, rfl⟩))).mono fun _ _ h => retK_err (by omega) h
  · exact (texts27_err t a c w 20 hA (.inr (.inr ⟨h1, h2, h3, rfl⟩))).mono fun _ _ h => retK_err (by omega) h
  · exact (texts27_yes t a c w hA h1 h2 h3).mono fun _ _ h => retK_ok h

set_option maxHeartbeats 4000000 in
theorem kinds28 (t : Tree) (a : Option Addr) (c : Nat) (w : World) (k r : Int) (hA : At w (· < w.heap.size) t a c) (hN : t.count ≤ 1000000000) (h : KindR t k r) : Calls Try.prog 28 #[val t a c, .int .i64 k] w (Ret1 w (.int .i64 r)) := by
  have hbx := boxed (w := w) (k := t.kind) (n := t.num) (s := t.text) (L := .slice a t.list.length c)
  generalize hW : w.alloc (.cells #[.int .i64 t.kind, .int .i64 t.num, .string t.text, .slice a t.list.length c] 26) = W1 at hbx
  have hA1 : At W1 (· < W1.heap.size) t a c := by rw [← hW]; exact at_alloc hA _
  have hb1 : Below w.heap.size w W1 := by rw [← hW]; exact (Below.refl _ _).alloc (Nat.le_refl _) _
  have hg : w.heap.size < W1.heap.size := hbx.lt
  have HBX := Lib.hid hbx
  have HB1 := Lib.hid hb1
  have HWW := Lib.hid hW
  have HA := Lib.hid hA1
  have HCK : Hid (∀ r, (Fits t 20 ∧ r = 0) ∨ (¬ Fits t 20 ∧ r = 2) → Calls Try.prog 25 #[val t a c] W1 (Ret1 W1 (.int .i64 r))) := fun r h => refCheck25 t a c W1 r hA1 hN h
  have HLL := Lib.hid ((at_eq w (· < w.heap.size) t a c).1 hA)
  have hnl : t.list.length ≤ 1000000000 := by have := length_countL t.list; have := count_eq t; omega
  unfold val at HCK ⊢
  clear hA hA1 hbx hb1 hW
  by_cases hf : Fits t 20
  · have HC0 := Lib.hid (HCK.out 0 (.inl ⟨hf, rfl⟩))
    have H := Lib.hid h
    have HF := Lib.hid hf
    clear h hf
    go_enter Try.func28, Try.ntmps28
    go_wp2_with fail
    rw [HWW.out]
    refine HC0.out.mono ?_
    rintro e w2 ⟨rfl, hb2⟩
    have hs2 := hb2.size
    have HB2 : Hid (Below w.heap.size w w2) := HB1.out.trans (hb2.mono (by omega))
    have hk2 := HBX.out.below hb2 hg
    have HK2 := Lib.hid hk2
    have hc0 := hk2.c0
    have hc1 := hk2.c1
    have hc2 := hk2.c2
    have hc3 := hk2.c3
    clear hb2 hk2
    by_cases h3 : t.kind = 3
    · have hk3 : (t.kind != 3) = false := by simp [h3]
      have H3 : Hid (t.kind = 3) := h3
      clear h3
      go_wp2_with fail
      go_loopw [5] (fun i wr => ∃ q, q ≤ t.list.length ∧ i = .int .i64 (q : Nat) ∧ (∀ j (hj : j < t.list.length), j < q → t.list[j].kind = k) ∧ wr = w2) (fun i _ => t.list.length - (intOf i).toNat)
      case atStart => exact ⟨0, Nat.zero_le _, rfl, fun j _ hj => by omega, rfl⟩
      case round =>
        obtain ⟨q, hq, rfl, hall, rfl⟩ := hrel
        have HALL := Lib.hid hall
        clear hall
        by_cases hlt : q < t.list.length
        · rcases HLL.out.2.2 with h0 | ⟨b, off, rfl, hb, hAL⟩
          · rw [h0] at hlt; simp at hlt
          obtain ⟨x, cx, e0, e1, e2, e3, hAt⟩ := AtL.get t.list b off hAL q hlt
          have f0 := (HB2.out.cell (p := ⟨b, off + q * 4, none⟩) hb).trans e0
          clear hAL e0 e1 e2 e3 hAt
          by_cases hk : t.list[q].kind = k
          · have HK : Hid (t.list[q].kind = k) := hk
            have hkk : (t.list[q].kind != k) = false := by simp [hk]
            clear hk
            go_wp2_with fail
            go_roundw
            case rel => exact ⟨q + 1, by omega, by go_num, fun j hj hjq => by
              rcases Nat.lt_or_ge j q with h | h
              · exact HALL.out j hj h
              · have e : j = q := by omega
                subst e
                exact HK.out, by trivial⟩
            case measure => simp [intOf]; omega
          · have hkk : (t.list[q].kind != k) = true := by simpa using hk
            have hr : r = 20 := by
              rcases H.out with h | h | h | h
              · exact absurd HF.out h.1
              · exact absurd H3.out h.2.1
              · exact h.2.2.2
              · exact absurd (h.2.2.1 q hlt) hk
            subst hr
            clear hk
            go_wp2_with fail
            try rw [Exit.noGoto_ret]
            go_ret
            exact ⟨rfl, HB2.out⟩
        · have hr : r = 0 := by
            rcases H.out with h | h | h | h
            · exact absurd HF.out h.1
            · exact absurd H3.out h.2.1
            · exact absurd (fun i hi => HALL.out i hi (by omega)) h.2.2.1
            · exact h.2.2.2
          subst hr
          go_wp2_with fail
          go_ret
          exact ⟨rfl, HB2.out⟩
    · have hk3 : (t.kind != 3) = true := by simpa using h3
      have hr : r = 20 := by
        rcases H.out with h | h | h | h
        · exact absurd HF.out h.1
        · exact h.2.2
        · exact absurd h.2.1 h3
        · exact absurd h.2.1 h3
      subst hr
      clear h3
      go_wp2_with fail
      go_ret
      exact ⟨rfl, HB2.out⟩
  · have HC0 := Lib.hid (HCK.out 2 (.inr ⟨hf, rfl⟩))
    have hr : r = 2 := by
      rcases h with h | h | h | h
      · exact h.2
      · exact absurd h.1 hf
      · exact absurd h.1 hf
      · exact absurd h.1 hf
    subst hr
    clear h hf
    go_enter Try.func28, Try.ntmps28
    go_wp2_with fail
    rw [HWW.out]
    refine HC0.out.mono ?_
    rintro e w2 ⟨rfl, hb2⟩
    have HB2 : Hid (Below w.heap.size w w2) := HB1.out.trans (hb2.mono (by omega))
    clear hb2
    go_wp2_with fail
    go_ret
    exact ⟨rfl, HB2.out⟩
end Go.Proofs.Ytkmikpmbnfcbpaa
