/- Contracts of Count, Deep, texts and long, of values of any size: some number. -/
import Derived.Test.YtkmikpmbnfcbpaaHs
namespace Go.Proofs.Ytkmikpmbnfcbpaa
open Go.RowKit Go.Lib
set_option linter.unusedVariables false
open Tree

/-- It answers some number. -/
def RetAnyI (w : World) (e : Ending) (w' : World) : Prop := (∃ n : Int, e = .returned (.int .i64 n)) ∧ Below w.heap.size w w'
set_option maxHeartbeats 1000000 in
theorem count_any (N : Nat) : ∀ (t : Tree) (a : Option Addr) (c : Nat) (w : World), t.count ≤ N → At w (· < w.heap.size) t a c →
    Calls Try.prog 41 #[val t a c] w (RetAnyI w) := by
  induction N with
  | zero => intro t a c w h _; rw [count_eq] at h; omega
  | succ N ih =>
    intro t a c w hN hA
    rw [at_eq] at hA
    rw [count_eq] at hN
    obtain ⟨hc1, hc2, hl⟩ := hA
    unfold val
    obtain ⟨l, hL⟩ : ∃ l, t.list = l := ⟨_, rfl⟩
    rw [hL] at hc1 hl hN ⊢
    obtain ⟨n, hn⟩ : ∃ n, l.length = n := ⟨_, rfl⟩
    have HN := Lib.hid hn
    rw [hn] at hc1 ⊢
    generalize t.kind = k0
    generalize t.num = n0
    generalize t.text = s0
    have HCL := Lib.hid hN
    clear hL hn hN
    go_enter Try.func41, Try.ntmps41
    go_wp2_with fail
    obtain ⟨W1, hW1⟩ : ∃ W1, W1 = w.alloc (.cells #[.int .i64 k0, .int .i64 n0, .string s0, .slice a n c] 26) := ⟨_, rfl⟩
    have hbox : W1.cell? ⟨w.heap.size, 3, none⟩ = some (.slice a n c) := by rw [hW1, cell_new rfl]; rfl
    have hB1 : Below w.heap.size w W1 := by rw [hW1]; exact (Below.refl _ _).alloc (Nat.le_refl _) _
    have hs1 : W1.heap.size = w.heap.size + 1 := by rw [hW1]; simp
    have HB1 := Lib.hid hB1
    rw [← hW1]
    clear hW1 hB1
    go_loopw [3, 4] (fun u i wr => ∃ (m : Int) (q : Nat), q ≤ n ∧ u = .int .i64 m ∧ i = .int .i64 (q : Nat) ∧ Below W1.heap.size W1 wr) (fun _ i _ => n - (intOf i).toNat)
    case atStart => exact ⟨_, 0, Nat.zero_le _, rfl, rfl, Below.refl _ _⟩
    case round =>
      obtain ⟨m, q, hq, rfl, rfl, hbl⟩ := hrel
      have HBL := Lib.hid hbl
      have hsz := hbl.size
      have hboxr : wr.cell? ⟨w.heap.size, 3, none⟩ = some (.slice a n c) := (hbl.cell (p := ⟨w.heap.size, 3, none⟩) (by show w.heap.size < _; omega)).trans hbox
      have HBW : Hid (Below w.heap.size w wr) := HB1.out.trans (hbl.mono (by omega))
      clear hbl
      by_cases hlt : q < n
      · rcases hl with h0 | ⟨b, off, rfl, hb, hAL⟩
        · rw [h0] at HN; have := HN.out; simp at this; omega
        have hq' : q < l.length := by rw [HN.out]; exact hlt
        obtain ⟨a', c', e0, e1, e2, e3, hAt⟩ := AtL.get l b off hAL q hq'
        have cell : ∀ o v, w.cell? ⟨b, o, none⟩ = some v → wr.cell? ⟨b, o, none⟩ = some v := fun o v h => (HBW.out.cell (p := ⟨b, o, none⟩) hb).trans h
        have f0 := cell _ _ e0
        have f1 := cell _ _ e1
        have f2 := cell _ _ e2
        have f3 := cell _ _ e3
        have hct := countL_take hq'
        have hcl2 := countL_le l (q + 1)
        have HIH : Hid (∀ W, W = wr → Calls Try.prog 41 #[val l[q] a' c'] W (RetAnyI W)) := fun W e => by
          subst e
          exact ih _ _ _ _ (by have := HCL.out; omega) ((hAt.below HBW.out).more HBW.out.size)
        unfold RetAnyI val at HIH
        clear hAL e0 e1 e2 e3 hAt cell hct hcl2
        go_wp2_with fail
        refine (HIH.out _ rfl).mono ?_
        rintro e w2 ⟨⟨x, rfl⟩, hb2⟩
        have HB2 : Hid (Below W1.heap.size W1 w2) := HBL.out.trans (hb2.mono hsz)
        clear hb2
        go_wp2_with fail
        go_roundw
        case rel => exact ⟨_, q + 1, by omega, rfl, by go_num, HB2.out⟩
        case measure => simp [intOf]; omega
      · obtain rfl : q = n := by omega
        go_wp2_with fail
        go_ret
        exact ⟨⟨_, rfl⟩, HBW.out⟩

set_option maxHeartbeats 1000000 in
theorem texts_any (N : Nat) : ∀ (t : Tree) (a : Option Addr) (c : Nat) (w : World), t.count ≤ N → At w (· < w.heap.size) t a c →
    Calls Try.prog 17 #[val t a c] w (RetAnyI w) := by
  induction N with
  | zero => intro t a c w h _; rw [count_eq] at h; omega
  | succ N ih =>
    intro t a c w hN hA
    rw [at_eq] at hA
    rw [count_eq] at hN
    obtain ⟨hc1, hc2, hl⟩ := hA
    unfold val
    obtain ⟨l, hL⟩ : ∃ l, t.list = l := ⟨_, rfl⟩
    rw [hL] at hc1 hl hN ⊢
    obtain ⟨n, hn⟩ : ∃ n, l.length = n := ⟨_, rfl⟩
    have HN := Lib.hid hn
    rw [hn] at hc1 ⊢
    generalize t.kind = k0
    generalize t.num = n0
    generalize t.text = s0
    have HCL := Lib.hid hN
    clear hL hn hN
    go_enter Try.func17, Try.ntmps17
    go_wp2_with fail
    obtain ⟨W1, hW1⟩ : ∃ W1, W1 = w.alloc (.cells #[.int .i64 k0, .int .i64 n0, .string s0, .slice a n c] 26) := ⟨_, rfl⟩
    have hbox2 : W1.cell? ⟨w.heap.size, 2, none⟩ = some (.string s0) := by rw [hW1, cell_new rfl]; rfl
    have hbox : W1.cell? ⟨w.heap.size, 3, none⟩ = some (.slice a n c) := by rw [hW1, cell_new rfl]; rfl
    have hB1 : Below w.heap.size w W1 := by rw [hW1]; exact (Below.refl _ _).alloc (Nat.le_refl _) _
    have hs1 : W1.heap.size = w.heap.size + 1 := by rw [hW1]; simp
    have HB1 := Lib.hid hB1
    rw [← hW1]
    clear hW1 hB1
    go_loopw [3, 4] (fun u i wr => ∃ (m : Int) (q : Nat), q ≤ n ∧ u = .int .i64 m ∧ i = .int .i64 (q : Nat) ∧ Below W1.heap.size W1 wr) (fun _ i _ => n - (intOf i).toNat)
    case atStart => exact ⟨_, 0, Nat.zero_le _, rfl, rfl, Below.refl _ _⟩
    case round =>
      obtain ⟨m, q, hq, rfl, rfl, hbl⟩ := hrel
      have HBL := Lib.hid hbl
      have hsz := hbl.size
      have hboxr : wr.cell? ⟨w.heap.size, 3, none⟩ = some (.slice a n c) := (hbl.cell (p := ⟨w.heap.size, 3, none⟩) (by show w.heap.size < _; omega)).trans hbox
      have HBW : Hid (Below w.heap.size w wr) := HB1.out.trans (hbl.mono (by omega))
      clear hbl
      by_cases hlt : q < n
      · rcases hl with h0 | ⟨b, off, rfl, hb, hAL⟩
        · rw [h0] at HN; have := HN.out; simp at this; omega
        have hq' : q < l.length := by rw [HN.out]; exact hlt
        obtain ⟨a', c', e0, e1, e2, e3, hAt⟩ := AtL.get l b off hAL q hq'
        have cell : ∀ o v, w.cell? ⟨b, o, none⟩ = some v → wr.cell? ⟨b, o, none⟩ = some v := fun o v h => (HBW.out.cell (p := ⟨b, o, none⟩) hb).trans h
        have f0 := cell _ _ e0
        have f1 := cell _ _ e1
        have f2 := cell _ _ e2
        have f3 := cell _ _ e3
        have hct := countL_take hq'
        have hcl2 := countL_le l (q + 1)
        have HIH : Hid (∀ W, W = wr → Calls Try.prog 17 #[val l[q] a' c'] W (RetAnyI W)) := fun W e => by
          subst e
          exact ih _ _ _ _ (by have := HCL.out; omega) ((hAt.below HBW.out).more HBW.out.size)
        unfold RetAnyI val at HIH
        clear hAL e0 e1 e2 e3 hAt cell hct hcl2
        go_wp2_with fail
        refine (HIH.out _ rfl).mono ?_
        rintro e w2 ⟨⟨x, rfl⟩, hb2⟩
        have HB2 : Hid (Below W1.heap.size W1 w2) := HBL.out.trans (hb2.mono hsz)
        clear hb2
        go_wp2_with fail
        go_roundw
        case rel => exact ⟨_, q + 1, by omega, rfl, by go_num, HB2.out⟩
        case measure => simp [intOf]; omega
      · obtain rfl : q = n := by omega
        go_wp2_with fail
        go_ret
        exact ⟨⟨_, rfl⟩, HBW.out⟩

set_option maxHeartbeats 1000000 in
theorem deep_any (N : Nat) : ∀ (t : Tree) (a : Option Addr) (c : Nat) (w : World), t.count ≤ N → At w (· < w.heap.size) t a c →
    Calls Try.prog 40 #[val t a c] w (RetAnyI w) := by
  induction N with
  | zero => intro t a c w h _; rw [count_eq] at h; omega
  | succ N ih =>
    intro t a c w hN hA
    rw [at_eq] at hA
    rw [count_eq] at hN
    obtain ⟨hc1, hc2, hl⟩ := hA
    unfold val
    obtain ⟨l, hL⟩ : ∃ l, t.list = l := ⟨_, rfl⟩
    rw [hL] at hc1 hl hN ⊢
    obtain ⟨n, hn⟩ : ∃ n, l.length = n := ⟨_, rfl⟩
    have HN := Lib.hid hn
    rw [hn] at hc1 ⊢
    generalize t.kind = k0
    generalize t.num = n0
    generalize t.text = s0
    have HCL := Lib.hid hN
    clear hL hn hN
    go_enter Try.func40, Try.ntmps40
    go_wp2_with fail
    obtain ⟨W1, hW1⟩ : ∃ W1, W1 = w.alloc (.cells #[.int .i64 k0, .int .i64 n0, .string s0, .slice a n c] 26) := ⟨_, rfl⟩
    have hbox : W1.cell? ⟨w.heap.size, 3, none⟩ = some (.slice a n c) := by rw [hW1, cell_new rfl]; rfl
    have hB1 : Below w.heap.size w W1 := by rw [hW1]; exact (Below.refl _ _).alloc (Nat.le_refl _) _
    have hs1 : W1.heap.size = w.heap.size + 1 := by rw [hW1]; simp
    have HB1 := Lib.hid hB1
    rw [← hW1]
    clear hW1 hB1
    go_loopw [3, 4] (fun u i wr => ∃ (m : Int) (q : Nat), q ≤ n ∧ u = .int .i64 m ∧ i = .int .i64 (q : Nat) ∧ Below W1.heap.size W1 wr) (fun _ i _ => n - (intOf i).toNat)
    case atStart => exact ⟨_, 0, Nat.zero_le _, rfl, rfl, Below.refl _ _⟩
    case round =>
      obtain ⟨m, q, hq, rfl, rfl, hbl⟩ := hrel
      have HBL := Lib.hid hbl
      have hsz := hbl.size
      have hboxr : wr.cell? ⟨w.heap.size, 3, none⟩ = some (.slice a n c) := (hbl.cell (p := ⟨w.heap.size, 3, none⟩) (by show w.heap.size < _; omega)).trans hbox
      have HBW : Hid (Below w.heap.size w wr) := HB1.out.trans (hbl.mono (by omega))
      clear hbl
      by_cases hlt : q < n
      · rcases hl with h0 | ⟨b, off, rfl, hb, hAL⟩
        · rw [h0] at HN; have := HN.out; simp at this; omega
        have hq' : q < l.length := by rw [HN.out]; exact hlt
        obtain ⟨a', c', e0, e1, e2, e3, hAt⟩ := AtL.get l b off hAL q hq'
        have cell : ∀ o v, w.cell? ⟨b, o, none⟩ = some v → wr.cell? ⟨b, o, none⟩ = some v := fun o v h => (HBW.out.cell (p := ⟨b, o, none⟩) hb).trans h
        have f0 := cell _ _ e0
        have f1 := cell _ _ e1
        have f2 := cell _ _ e2
        have f3 := cell _ _ e3
        have hct := countL_take hq'
        have hdt := depthL_take hq'
        have hcl2 := countL_le l (q + 1)
        have hdl2 := depthL_le l (q + 1)
        have HIH : Hid (∀ W, W = wr → Calls Try.prog 40 #[val l[q] a' c'] W (RetAnyI W)) := fun W e => by
          subst e
          exact ih _ _ _ _ (by have := HCL.out; omega) ((hAt.below HBW.out).more HBW.out.size)
        unfold RetAnyI val at HIH
        clear hAL e0 e1 e2 e3 hAt cell hct hcl2 hdt hdl2
        go_wp2_with fail
        refine (HIH.out _ rfl).mono ?_
        rintro e w2 ⟨⟨x, rfl⟩, hb2⟩
        have HB2 : Hid (Below W1.heap.size W1 w2) := HBL.out.trans (hb2.mono hsz)
        clear hb2
        go_wp2_with fail
        go_roundw
        case rel => exact ⟨_, q + 1, by omega, rfl, by go_num, HB2.out⟩
        case measure => simp [intOf]; omega
      · obtain rfl : q = n := by omega
        go_wp2_with fail
        go_ret
        exact ⟨⟨_, rfl⟩, HBW.out⟩

set_option maxHeartbeats 2000000 in
theorem long_any (t : Tree) (a : Option Addr) (c : Nat) (w : World) (hA : At w (· < w.heap.size) t a c) :
    Calls Try.prog 16 #[val t a c] w fun e w' => (∃ b : Bool, e = .returned (.bool b)) ∧ Below w.heap.size w w' := by
  have hbx := boxed (w := w) (k := t.kind) (n := t.num) (s := t.text) (L := .slice a t.list.length c)
  generalize hW : w.alloc (.cells #[.int .i64 t.kind, .int .i64 t.num, .string t.text, .slice a t.list.length c] 26) = W1 at hbx
  have hA1 : At W1 (· < W1.heap.size) t a c := by rw [← hW]; exact at_alloc hA _
  have hb1 : Below w.heap.size w W1 := by rw [← hW]; exact (Below.refl _ _).alloc (Nat.le_refl _) _
  have HBX := Lib.hid hbx
  have hg : w.heap.size < W1.heap.size := hbx.lt
  have HB1 := Lib.hid hb1
  have HWW := Lib.hid hW
  have HD : Hid (∀ W, W = W1 → Calls Try.prog 40 #[val t a c] W (RetAnyI W)) := fun W e => by subst e; exact deep_any t.count t a c W (Nat.le_refl _) hA1
  have HC : Hid (∀ W, Below W1.heap.size W1 W → Calls Try.prog 41 #[val t a c] W (RetAnyI W)) := fun W hb => count_any t.count t a c W (Nat.le_refl _) (at_later hA1 hb)
  unfold RetAnyI val at HD HC
  unfold val
  clear hA hA1 hbx hb1 hW
  go_enter Try.func16, Try.ntmps16
  go_wp2_with fail
  refine (HD.out _ HWW.out).mono ?_
  rw [HWW.out]
  rintro e w3 ⟨⟨dd, rfl⟩, hb3⟩
  have HB3 := Lib.hid hb3
  have hk3 := HBX.out.below hb3 hg
  have hc03 := hk3.c0
  have hc13 := hk3.c1
  have hc23 := hk3.c2
  have hc33 := hk3.c3
  have hs3 := hb3.size
  have hgg3 : w.heap.size < w3.heap.size := by omega
  clear hb3 hk3
  by_cases hd' : ((60 : Int) < dd)
  · go_wp2_with fail
    go_ret
    exact ⟨⟨_, rfl⟩, HB1.out.trans (HB3.out.mono HB1.out.size)⟩
  · go_wp2_with fail
    refine (HC.out w3 HB3.out).mono ?_
    rintro e w4 ⟨⟨nn, rfl⟩, hb4⟩
    have HB4 : Hid (Below w.heap.size w w4) := HB1.out.trans ((HB3.out.trans (hb4.mono HB3.out.size)).mono HB1.out.size)
    clear hb4
    go_wp2_with fail
    go_ret
    exact ⟨⟨_, rfl⟩, HB4.out⟩

end Go.Proofs.Ytkmikpmbnfcbpaa
