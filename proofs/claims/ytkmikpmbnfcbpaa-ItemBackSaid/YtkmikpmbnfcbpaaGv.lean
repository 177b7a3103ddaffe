/- Contracts of the two comparisons of items. -/
import Derived.Test.YtkmikpmbnfcbpaaGt
namespace Go.Proofs.Ytkmikpmbnfcbpaa
open Go.RowKit Go.Lib
set_option linter.unusedVariables false
open Tree Anyv

theorem tree_ext (t u : Tree) : t = u ↔ t.kind = u.kind ∧ t.num = u.num ∧ t.text = u.text ∧ t.list = u.list := by
  cases t; cases u; simp [kind, Tree.num, text, list]
theorem text_ne {s s' : ByteArray} (h : ¬ s = s') : (s.toList == s'.toList) = false := by
  obtain ⟨d⟩ := s
  obtain ⟨d'⟩ := s'
  rw [ByteArray.toList_mk, ByteArray.toList_mk]
  simp only [beq_eq_false_iff_ne, ne_eq]
  intro e
  apply h
  congr 1
  exact Array.toList_inj.1 e

set_option maxHeartbeats 4000000 in
theorem refSame15_calls (N : Nat) : ∀ (t u : Tree) (a a' : Option Addr) (c c' : Nat) (w : World), t.count ≤ N → At w (· < w.heap.size) t a c → At w (· < w.heap.size) u a' c' →
    Calls Try.prog 15 #[val t a c, val u a' c'] w (RetQ w (t = u)) := by
  induction N with
  | zero => intro t u a a' c c' w h _ _; rw [count_eq] at h; omega
  | succ N ih =>
    intro t u a a' c c' w hN hA hA'
    rw [at_eq] at hA hA'
    rw [count_eq] at hN
    obtain ⟨hc1, hc2, hl⟩ := hA
    obtain ⟨hd1, hd2, hm⟩ := hA'
    have hpe := tree_ext t u
    obtain ⟨p, hp⟩ : ∃ p, p = (t = u) := ⟨_, rfl⟩
    rw [← hp] at hpe ⊢
    unfold val
    obtain ⟨l, hL⟩ : ∃ l, t.list = l := ⟨_, rfl⟩
    obtain ⟨l', hL'⟩ : ∃ l', u.list = l' := ⟨_, rfl⟩
    rw [hL] at hc1 hl hN hpe ⊢
    rw [hL'] at hd1 hm hpe ⊢
    obtain ⟨n, hn⟩ : ∃ n, l.length = n := ⟨_, rfl⟩
    obtain ⟨n', hn'⟩ : ∃ n', l'.length = n' := ⟨_, rfl⟩
    have HN := Lib.hid hn
    have HN' := Lib.hid hn'
    rw [hn] at hc1 ⊢
    rw [hn'] at hd1 ⊢
    generalize t.kind = k0 at hpe ⊢
    generalize t.num = m0 at hpe ⊢
    generalize t.text = s0 at hpe ⊢
    generalize u.kind = k1 at hpe ⊢
    generalize u.num = m1 at hpe ⊢
    generalize u.text = s1 at hpe ⊢
    have HCL := Lib.hid hN
    have HPE := Lib.hid hpe
    clear hL hL' hn hn' hN hpe hp
    have hb0 : Below w.heap.size w ((w.alloc (.cells #[.int .i64 k0, .int .i64 m0, .string s0, .slice a n c] 26)).alloc (.cells #[.int .i64 k1, .int .i64 m1, .string s1, .slice a' n' c'] 26)) := ((Below.refl _ _).alloc (Nat.le_refl _) _).alloc (by simp) _
    have HB0 := Lib.hid hb0
    clear hb0
    by_cases e1 : k0 = k1
    · subst e1
      by_cases e2 : m0 = m1
      · subst e2
        by_cases e3 : s0 = s1
        · subst e3
          by_cases e4 : n = n'
          · subst e4
            go_enter Try.func15, Try.ntmps15
            go_wp2_with fail
            generalize hW1 : World.alloc (World.alloc w _) _ = W1
            have hk0 : Blk W1 w.heap.size 26 #[.int .i64 k0, .int .i64 m0, .string s0, .slice a n c] := by rw [← hW1]; exact boxed.alloc _
            have hk1 : Blk W1 (w.heap.size + 1) 26 #[.int .i64 k0, .int .i64 m0, .string s0, .slice a' n c'] := by rw [← hW1, ← size_alloc w]; exact Blk.new _ 26 _
            have hs1 : W1.heap.size = w.heap.size + 2 := by rw [← hW1]; simp
            have HB1 : Hid (Below w.heap.size w W1) := by unfold Hid; rw [← hW1]; exact HB0.out
            have HK0 := Lib.hid hk0
            have HK1 := Lib.hid hk1
            clear hW1 hk0 hk1
            go_loopw [5] (fun i wr => ∃ q, q ≤ n ∧ i = .int .i64 (q : Nat) ∧ (∀ j (hj : j < l.length) (hj' : j < l'.length), j < q → l[j] = l'[j]) ∧ Below W1.heap.size W1 wr) (fun i _ => n - (intOf i).toNat)
            case atStart => exact ⟨0, Nat.zero_le _, rfl, fun j _ _ hj => by omega, Below.refl _ _⟩
            case round =>
              obtain ⟨q, hq, rfl, hall, hbl⟩ := hrel
              have HALL := Lib.hid hall
              have HBL := Lib.hid hbl
              have hsz := hbl.size
              have hx0 := (HK0.out.below hbl HK0.out.lt).c3
              have hx1 := (HK1.out.below hbl HK1.out.lt).c3
              have HBW : Hid (Below w.heap.size w wr) := HB1.out.trans (hbl.mono (by omega))
              clear hall hbl
              by_cases hlt : q < n
              · rcases hl with h0 | ⟨b, off, rfl, hb, hAL⟩
                · rw [h0] at HN; have := HN.out; simp at this; omega
                rcases hm with h0 | ⟨b', off', rfl, hb', hAL'⟩
                · rw [h0] at HN'; have := HN'.out; simp at this; omega
                have hq' : q < l.length := by rw [HN.out]; exact hlt
                have hq2 : q < l'.length := by rw [HN'.out]; exact hlt
                obtain ⟨x, cx, e0, e1, e2, e3, hAt⟩ := AtL.get l b off hAL q hq'
                obtain ⟨y, cy, i0, i1, i2, i3, hAt'⟩ := AtL.get l' b' off' hAL' q hq2
                have cell : ∀ o v, w.cell? ⟨b, o, none⟩ = some v → wr.cell? ⟨b, o, none⟩ = some v := fun o v h => (HBW.out.cell (p := ⟨b, o, none⟩) hb).trans h
                have cell' : ∀ o v, w.cell? ⟨b', o, none⟩ = some v → wr.cell? ⟨b', o, none⟩ = some v := fun o v h => (HBW.out.cell (p := ⟨b', o, none⟩) hb').trans h
                have f0 := cell _ _ e0
                have f1 := cell _ _ e1
                have f2 := cell _ _ e2
                have f3 := cell _ _ e3
                have j0 := cell' _ _ i0
                have j1 := cell' _ _ i1
                have j2 := cell' _ _ i2
                have j3 := cell' _ _ i3
                have hct := countL_take hq'
                have hcl2 := countL_le l (q + 1)
                have hbr : b < wr.heap.size := by omega
                have hbr' : b' < wr.heap.size := by omega
                have HIH : Hid (∀ W, Below wr.heap.size wr W → Calls Try.prog 15 #[val l[q] x cx, val l'[q] y cy] W (RetQ W (l[q] = l'[q]))) := fun W hb =>
                  ih _ _ _ _ _ _ _ (by have := HCL.out; omega) (at_later ((hAt.below HBW.out).more HBW.out.size) hb) (at_later ((hAt'.below HBW.out).more HBW.out.size) hb)
                unfold val at HIH
                have HQ' := Lib.hid hq'
                have HQ2 := Lib.hid hq2
                have HS : Hid (∀ w', Below wr.heap.size wr w' → w'.cell? ⟨w.heap.size, 3, none⟩ = some (.slice (some ⟨b, off, none⟩) n c) ∧ w'.cell? ⟨w.heap.size + 1, 3, none⟩ = some (.slice (some ⟨b', off', none⟩) n c') ∧ w'.cell? ⟨b, off + q * 4, none⟩ = some (.int .i64 l[q].kind) ∧ w'.cell? ⟨b, off + q * 4 + 1, none⟩ = some (.int .i64 l[q].num) ∧ w'.cell? ⟨b, off + q * 4 + 2, none⟩ = some (.string l[q].text) ∧ w'.cell? ⟨b, off + q * 4 + 3, none⟩ = some (.slice x l[q].list.length cx) ∧ w'.cell? ⟨b', off' + q * 4, none⟩ = some (.int .i64 l'[q].kind) ∧ w'.cell? ⟨b', off' + q * 4 + 1, none⟩ = some (.int .i64 l'[q].num) ∧ w'.cell? ⟨b', off' + q * 4 + 2, none⟩ = some (.string l'[q].text) ∧ w'.cell? ⟨b', off' + q * 4 + 3, none⟩ = some (.slice y l'[q].list.length cy)) := fun w' hb =>
                  ⟨(hb.cell (p := ⟨_, _, none⟩) (by show w.heap.size < _; omega)).trans hx0, (hb.cell (p := ⟨_, _, none⟩) (by show w.heap.size + 1 < _; omega)).trans hx1, (hb.cell (p := ⟨b, _, none⟩) hbr).trans f0, (hb.cell (p := ⟨b, _, none⟩) hbr).trans f1, (hb.cell (p := ⟨b, _, none⟩) hbr).trans f2, (hb.cell (p := ⟨b, _, none⟩) hbr).trans f3,
                    (hb.cell (p := ⟨b', _, none⟩) hbr').trans j0, (hb.cell (p := ⟨b', _, none⟩) hbr').trans j1, (hb.cell (p := ⟨b', _, none⟩) hbr').trans j2, (hb.cell (p := ⟨b', _, none⟩) hbr').trans j3⟩
                have hS0 := HS.out _ (Below.refl wr.heap.size wr).drew
                clear hAL hAL' e0 e1 e2 e3 i0 i1 i2 i3 hAt hAt' cell cell' hct hcl2
                go_wp2_with fail
                go_region_held3 (fun w' => w'.cell? ⟨w.heap.size, 3, none⟩ = some (.slice (some ⟨b, off, none⟩) n c) ∧ w'.cell? ⟨w.heap.size + 1, 3, none⟩ = some (.slice (some ⟨b', off', none⟩) n c') ∧ w'.cell? ⟨b, off + q * 4, none⟩ = some (.int .i64 l[q].kind) ∧ w'.cell? ⟨b, off + q * 4 + 1, none⟩ = some (.int .i64 l[q].num) ∧ w'.cell? ⟨b, off + q * 4 + 2, none⟩ = some (.string l[q].text) ∧ w'.cell? ⟨b, off + q * 4 + 3, none⟩ = some (.slice x l[q].list.length cx) ∧ w'.cell? ⟨b', off' + q * 4, none⟩ = some (.int .i64 l'[q].kind) ∧ w'.cell? ⟨b', off' + q * 4 + 1, none⟩ = some (.int .i64 l'[q].num) ∧ w'.cell? ⟨b', off' + q * 4 + 2, none⟩ = some (.string l'[q].text) ∧ w'.cell? ⟨b', off' + q * 4 + 3, none⟩ = some (.slice y l'[q].list.length cy)) (assumption) (first
                  | (go_at_call 15; refine (HIH.out _ ?_).mono ?_; (exact (Below.refl wr.heap.size wr).drew); rintro e w2 ⟨br, rfl, hbr, hb2⟩; (have hS2 := HS.out _ ((Below.refl wr.heap.size wr).drew.trans hb2)); (have HB2 : Hid (Below w.heap.size w w2) := HBW.out.trans (Below.mono ((Below.refl wr.heap.size wr).drew.trans hb2) HBW.out.size)); (have HB3 : Hid (Below W1.heap.size W1 w2) := HBL.out.trans (Below.mono ((Below.refl wr.heap.size wr).drew.trans hb2) hsz))))
                all_goals
                  have HBR := Lib.hid hbr
                  clear hbr hb2
                  cases br with
                  | true =>
                    go_wp2_with fail
                    go_roundw
                    case rel => exact ⟨q + 1, by omega, by go_num, fun j hj hj2 hjq => by
                      rcases Nat.lt_or_ge j q with h | h
                      · exact HALL.out j hj hj2 h
                      · have e : j = q := by omega
                        subst e
                        exact HBR.out.1 rfl, HB3.out⟩
                    case measure => simp [intOf]; omega
                  | false =>
                    have hno : ¬ p := fun hp => by
                      have h1 := (HPE.out.1 hp).2.2.2
                      subst h1
                      have := HBR.out.2 rfl
                      simp at this
                    have HNO := Lib.hid hno
                    clear hno
                    go_wp2_with fail
                    try rw [Exit.noGoto_ret]
                    go_ret
                    exact retQ_no HNO.out HB2.out
              · obtain rfl : q = n := by omega
                have hyes : p := HPE.out.2 ⟨by trivial, by trivial, by trivial, List.ext_getElem (by rw [HN.out, HN'.out]) fun i h1 h2 => HALL.out i h1 h2 (by rw [← HN.out]; exact h1)⟩
                have HYES := Lib.hid hyes
                clear hyes
                go_wp2_with fail
                go_ret
                exact retQ_yes HYES.out HBW.out
          · have HNO : Hid (¬ p) := fun hp => e4 (by rw [← HN.out, ← HN'.out, (HPE.out.1 hp).2.2.2])
            have b4 : ((n : Int) != (n' : Int)) = true := by simp; omega
            clear e4
            go_enter Try.func15, Try.ntmps15
            go_wp2_with fail
            go_ret
            exact retQ_no HNO.out HB0.out
        · have HNO : Hid (¬ p) := fun hp => e3 (HPE.out.1 hp).2.2.1
          have b3 := text_ne e3
          clear e3
          go_enter Try.func15, Try.ntmps15
          go_wp2_with fail
          go_ret
          exact retQ_no HNO.out HB0.out
      · have HNO : Hid (¬ p) := fun hp => e2 (HPE.out.1 hp).2.1
        have b2 : (m0 != m1) = true := by simpa using e2
        clear e2
        go_enter Try.func15, Try.ntmps15
        go_wp2_with fail
        go_ret
        exact retQ_no HNO.out HB0.out
    · have HNO : Hid (¬ p) := fun hp => e1 (HPE.out.1 hp).1
      have b1 : (k0 != k1) = true := by simpa using e1
      clear e1
      go_enter Try.func15, Try.ntmps15
      go_wp2_with fail
      go_ret
      exact retQ_no HNO.out HB0.out

set_option maxHeartbeats 4000000 in
theorem same29_calls (N : Nat) : ∀ (t u : Tree) (a a' : Option Addr) (c c' : Nat) (w : World), t.count ≤ N → At w (· < w.heap.size) t a c → At w (· < w.heap.size) u a' c' →
    Calls Try.prog 29 #[val t a c, val u a' c'] w (RetQ w (t = u)) := by
  induction N with
  | zero => intro t u a a' c c' w h _ _; rw [count_eq] at h; omega
  | succ N ih =>
    intro t u a a' c c' w hN hA hA'
    rw [at_eq] at hA hA'
    rw [count_eq] at hN
    obtain ⟨hc1, hc2, hl⟩ := hA
    obtain ⟨hd1, hd2, hm⟩ := hA'
    have hpe := tree_ext t u
    obtain ⟨p, hp⟩ : ∃ p, p = (t = u) := ⟨_, rfl⟩
    rw [← hp] at hpe ⊢
    unfold val
    obtain ⟨l, hL⟩ : ∃ l, t.list = l := ⟨_, rfl⟩
    obtain ⟨l', hL'⟩ : ∃ l', u.list = l' := ⟨_, rfl⟩
    rw [hL] at hc1 hl hN hpe ⊢
    rw [hL'] at hd1 hm hpe ⊢
    obtain ⟨n, hn⟩ : ∃ n, l.length = n := ⟨_, rfl⟩
    obtain ⟨n', hn'⟩ : ∃ n', l'.length = n' := ⟨_, rfl⟩
    have HN := Lib.hid hn
    have HN' := Lib.hid hn'
    rw [hn] at hc1 ⊢
    rw [hn'] at hd1 ⊢
    generalize t.kind = k0 at hpe ⊢
    generalize t.num = m0 at hpe ⊢
    generalize t.text = s0 at hpe ⊢
    generalize u.kind = k1 at hpe ⊢
    generalize u.num = m1 at hpe ⊢
    generalize u.text = s1 at hpe ⊢
    have HCL := Lib.hid hN
    have HPE := Lib.hid hpe
    clear hL hL' hn hn' hN hpe hp
    have hb0 : Below w.heap.size w ((w.alloc (.cells #[.int .i64 k0, .int .i64 m0, .string s0, .slice a n c] 26)).alloc (.cells #[.int .i64 k1, .int .i64 m1, .string s1, .slice a' n' c'] 26)) := ((Below.refl _ _).alloc (Nat.le_refl _) _).alloc (by simp) _
    have HB0 := Lib.hid hb0
    clear hb0
    by_cases e1 : k0 = k1
    · subst e1
      by_cases e2 : m0 = m1
      · subst e2
        by_cases e3 : s0 = s1
        · subst e3
          by_cases e4 : n = n'
          · subst e4
            go_enter Try.func29, Try.ntmps29
            go_wp2_with fail
            generalize hW1 : World.alloc (World.alloc w _) _ = W1
            have hk0 : Blk W1 w.heap.size 26 #[.int .i64 k0, .int .i64 m0, .string s0, .slice a n c] := by rw [← hW1]; exact boxed.alloc _
            have hk1 : Blk W1 (w.heap.size + 1) 26 #[.int .i64 k0, .int .i64 m0, .string s0, .slice a' n c'] := by rw [← hW1, ← size_alloc w]; exact Blk.new _ 26 _
            have hs1 : W1.heap.size = w.heap.size + 2 := by rw [← hW1]; simp
            have HB1 : Hid (Below w.heap.size w W1) := by unfold Hid; rw [← hW1]; exact HB0.out
            have HK0 := Lib.hid hk0
            have HK1 := Lib.hid hk1
            clear hW1 hk0 hk1
            go_loopw [38] (fun i wr => ∃ q, q ≤ n ∧ i = .int .i64 (q : Nat) ∧ (∀ j (hj : j < l.length) (hj' : j < l'.length), j < q → l[j] = l'[j]) ∧ Below W1.heap.size W1 wr) (fun i _ => n - (intOf i).toNat)
            case atStart => exact ⟨0, Nat.zero_le _, rfl, fun j _ _ hj => by omega, Below.refl _ _⟩
            case round =>
              obtain ⟨q, hq, rfl, hall, hbl⟩ := hrel
              have HALL := Lib.hid hall
              have HBL := Lib.hid hbl
              have hsz := hbl.size
              have hx0 := (HK0.out.below hbl HK0.out.lt).c3
              have hx1 := (HK1.out.below hbl HK1.out.lt).c3
              have HBW : Hid (Below w.heap.size w wr) := HB1.out.trans (hbl.mono (by omega))
              clear hall hbl
              by_cases hlt : q < n
              · rcases hl with h0 | ⟨b, off, rfl, hb, hAL⟩
                · rw [h0] at HN; have := HN.out; simp at this; omega
                rcases hm with h0 | ⟨b', off', rfl, hb', hAL'⟩
                · rw [h0] at HN'; have := HN'.out; simp at this; omega
                have hq' : q < l.length := by rw [HN.out]; exact hlt
                have hq2 : q < l'.length := by rw [HN'.out]; exact hlt
                obtain ⟨x, cx, e0, e1, e2, e3, hAt⟩ := AtL.get l b off hAL q hq'
                obtain ⟨y, cy, i0, i1, i2, i3, hAt'⟩ := AtL.get l' b' off' hAL' q hq2
                have cell : ∀ o v, w.cell? ⟨b, o, none⟩ = some v → wr.cell? ⟨b, o, none⟩ = some v := fun o v h => (HBW.out.cell (p := ⟨b, o, none⟩) hb).trans h
                have cell' : ∀ o v, w.cell? ⟨b', o, none⟩ = some v → wr.cell? ⟨b', o, none⟩ = some v := fun o v h => (HBW.out.cell (p := ⟨b', o, none⟩) hb').trans h
                have f0 := cell _ _ e0
                have f1 := cell _ _ e1
                have f2 := cell _ _ e2
                have f3 := cell _ _ e3
                have j0 := cell' _ _ i0
                have j1 := cell' _ _ i1
                have j2 := cell' _ _ i2
                have j3 := cell' _ _ i3
                have hct := countL_take hq'
                have hcl2 := countL_le l (q + 1)
                have hbr : b < wr.heap.size := by omega
                have hbr' : b' < wr.heap.size := by omega
                have HIH : Hid (∀ W, Below wr.heap.size wr W → Calls Try.prog 29 #[val l[q] x cx, val l'[q] y cy] W (RetQ W (l[q] = l'[q]))) := fun W hb =>
                  ih _ _ _ _ _ _ _ (by have := HCL.out; omega) (at_later ((hAt.below HBW.out).more HBW.out.size) hb) (at_later ((hAt'.below HBW.out).more HBW.out.size) hb)
                unfold val at HIH
                have HQ' := Lib.hid hq'
                have HQ2 := Lib.hid hq2
                have HS : Hid (∀ w', Below (wr.heap.size + 1) (wr.alloc (.cells #[.int .i64 l[q].kind, .int .i64 l[q].num, .string l[q].text, .slice x l[q].list.length cx] 26)) w' → w'.cell? ⟨wr.heap.size, 0, none⟩ = some (.int .i64 l[q].kind) ∧ w'.cell? ⟨wr.heap.size, 1, none⟩ = some (.int .i64 l[q].num) ∧ w'.cell? ⟨wr.heap.size, 2, none⟩ = some (.string l[q].text) ∧ w'.cell? ⟨wr.heap.size, 3, none⟩ = some (.slice x l[q].list.length cx) ∧ w'.cell? ⟨w.heap.size + 1, 3, none⟩ = some (.slice (some ⟨b', off', none⟩) n c') ∧ w'.cell? ⟨b', off' + q * 4, none⟩ = some (.int .i64 l'[q].kind) ∧ w'.cell? ⟨b', off' + q * 4 + 1, none⟩ = some (.int .i64 l'[q].num) ∧ w'.cell? ⟨b', off' + q * 4 + 2, none⟩ = some (.string l'[q].text) ∧ w'.cell? ⟨b', off' + q * 4 + 3, none⟩ = some (.slice y l'[q].list.length cy)) := fun w' hb =>
                  have hk := (Blk.new wr 26 #[.int .i64 l[q].kind, .int .i64 l[q].num, .string l[q].text, .slice x l[q].list.length cx]).below hb (by omega)
                  have hb' : Below wr.heap.size wr w' := ((Below.refl _ _).alloc (Nat.le_refl _) _).trans (hb.mono (by omega))
                  ⟨hk.c0, hk.c1, hk.c2, hk.c3, (hb'.cell (p := ⟨_, _, none⟩) (by show w.heap.size + 1 < _; omega)).trans hx1,
                    (hb'.cell (p := ⟨b', _, none⟩) hbr').trans j0, (hb'.cell (p := ⟨b', _, none⟩) hbr').trans j1, (hb'.cell (p := ⟨b', _, none⟩) hbr').trans j2, (hb'.cell (p := ⟨b', _, none⟩) hbr').trans j3⟩
                have hS0 := HS.out _ (Below.refl (wr.heap.size + 1) (wr.alloc (.cells #[.int .i64 l[q].kind, .int .i64 l[q].num, .string l[q].text, .slice x l[q].list.length cx] 26))).drew
                clear hAL hAL' e0 e1 e2 e3 i0 i1 i2 i3 hAt hAt' cell cell' hct hcl2
                go_wp2_with fail
                go_region_held3 (fun w' => w'.cell? ⟨wr.heap.size, 0, none⟩ = some (.int .i64 l[q].kind) ∧ w'.cell? ⟨wr.heap.size, 1, none⟩ = some (.int .i64 l[q].num) ∧ w'.cell? ⟨wr.heap.size, 2, none⟩ = some (.string l[q].text) ∧ w'.cell? ⟨wr.heap.size, 3, none⟩ = some (.slice x l[q].list.length cx) ∧ w'.cell? ⟨w.heap.size + 1, 3, none⟩ = some (.slice (some ⟨b', off', none⟩) n c') ∧ w'.cell? ⟨b', off' + q * 4, none⟩ = some (.int .i64 l'[q].kind) ∧ w'.cell? ⟨b', off' + q * 4 + 1, none⟩ = some (.int .i64 l'[q].num) ∧ w'.cell? ⟨b', off' + q * 4 + 2, none⟩ = some (.string l'[q].text) ∧ w'.cell? ⟨b', off' + q * 4 + 3, none⟩ = some (.slice y l'[q].list.length cy)) (assumption) (first
                  | (go_at_call 29; refine (HIH.out _ ?_).mono ?_; (exact ((Below.refl wr.heap.size wr).alloc (Nat.le_refl _) _).drew); rintro e w2 ⟨br, rfl, hbr, hb2⟩; (have hS2 := HS.out _ ((Below.refl (wr.heap.size + 1) (wr.alloc (.cells #[.int .i64 l[q].kind, .int .i64 l[q].num, .string l[q].text, .slice x l[q].list.length cx] 26))).drew.trans (Below.mono hb2 (by simp)))); (have HB2 : Hid (Below w.heap.size w w2) := HBW.out.trans (Below.mono (((Below.refl wr.heap.size wr).alloc (Nat.le_refl _) (.cells #[.int .i64 l[q].kind, .int .i64 l[q].num, .string l[q].text, .slice x l[q].list.length cx] 26)).drew.trans (Below.mono hb2 (by simp))) HBW.out.size)); (have HB3 : Hid (Below W1.heap.size W1 w2) := HBL.out.trans (Below.mono (((Below.refl wr.heap.size wr).alloc (Nat.le_refl _) (.cells #[.int .i64 l[q].kind, .int .i64 l[q].num, .string l[q].text, .slice x l[q].list.length cx] 26)).drew.trans (Below.mono hb2 (by simp))) hsz))))
                all_goals
                  have HBR := Lib.hid hbr
                  clear hbr hb2
                  cases br with
                  | true =>
                    go_wp2_with fail
                    go_roundw
                    case rel => exact ⟨q + 1, by omega, by go_num, fun j hj hj2 hjq => by
                      rcases Nat.lt_or_ge j q with h | h
                      · exact HALL.out j hj hj2 h
                      · have e : j = q := by omega
                        subst e
                        exact HBR.out.1 rfl, HB3.out⟩
                    case measure => simp [intOf]; omega
                  | false =>
                    have hno : ¬ p := fun hp => by
                      have h1 := (HPE.out.1 hp).2.2.2
                      subst h1
                      have := HBR.out.2 rfl
                      simp at this
                    have HNO := Lib.hid hno
                    clear hno
                    go_wp2_with fail
                    try rw [Exit.noGoto_ret]
                    go_ret
                    exact retQ_no HNO.out HB2.out
              · obtain rfl : q = n := by omega
                have hyes : p := HPE.out.2 ⟨by trivial, by trivial, by trivial, List.ext_getElem (by rw [HN.out, HN'.out]) fun i h1 h2 => HALL.out i h1 h2 (by rw [← HN.out]; exact h1)⟩
                have HYES := Lib.hid hyes
                clear hyes
                go_wp2_with fail
                go_ret
                exact retQ_yes HYES.out HBW.out
          · have HNO : Hid (¬ p) := fun hp => e4 (by rw [← HN.out, ← HN'.out, (HPE.out.1 hp).2.2.2])
            have b4 : ((n : Int) != (n' : Int)) = true := by simp; omega
            clear e4
            go_enter Try.func29, Try.ntmps29
            go_wp2_with fail
            go_ret
            exact retQ_no HNO.out HB0.out
        · have HNO : Hid (¬ p) := fun hp => e3 (HPE.out.1 hp).2.2.1
          have b3 := text_ne e3
          clear e3
          go_enter Try.func29, Try.ntmps29
          go_wp2_with fail
          go_ret
          exact retQ_no HNO.out HB0.out
      · have HNO : Hid (¬ p) := fun hp => e2 (HPE.out.1 hp).2.1
        have b2 : (m0 != m1) = true := by simpa using e2
        clear e2
        go_enter Try.func29, Try.ntmps29
        go_wp2_with fail
        go_ret
        exact retQ_no HNO.out HB0.out
    · have HNO : Hid (¬ p) := fun hp => e1 (HPE.out.1 hp).1
      have b1 : (k0 != k1) = true := by simpa using e1
      clear e1
      go_enter Try.func29, Try.ntmps29
      go_wp2_with fail
      go_ret
      exact retQ_no HNO.out HB0.out
end Go.Proofs.Ytkmikpmbnfcbpaa
