/- A copy's row is its owner's. -/
import Derived.Test.YtkmikpmbnfcbpaaGy
namespace Go.Proofs.Ytkmikpmbnfcbpaa
open Go.RowKit Go.Lib
set_option linter.unusedVariables false
open Tree Anyv

/-- A copy: its row is the call's own. -/
def RetOwn (w : World) (t : Tree) (e : Ending) (w' : World) : Prop := ∃ a c xs, e = .returned (val t a c) ∧ At w' (fun b => w.heap.size ≤ b ∧ b < w'.heap.size) t a c ∧ w'.ownsRow w.heap.size 26 4 (.slice a t.list.length c) t.list.length xs ∧ Below w.heap.size w w'
theorem RetOwn.ret {w w' : World} {t : Tree} {e : Ending} (h : RetOwn w t e w') : RetO w t e w' := by
  obtain ⟨a, c, xs, h1, h2, _, h3⟩ := h
  exact ⟨a, c, h1, h2, h3⟩
set_option maxHeartbeats 4000000 in
theorem copy_own (N : Nat) : ∀ (t : Tree) (a : Option Addr) (c : Nat) (w : World), t.count ≤ N → N ≤ 1000000000 → At w (· < w.heap.size) t a c →
    Calls Try.prog 30 #[val t a c] w (RetOwn w t) := by
  induction N with
  | zero => intro t a c w h _ _; rw [count_eq] at h; omega
  | succ N ih =>
    intro t a c w hN hM hA
    obtain ⟨i0, hi0, hz0, hz1, hz2⟩ := info_parts item_info
    rw [at_eq] at hA
    rw [count_eq] at hN
    obtain ⟨hc1, hc2, hl⟩ := hA
    obtain ⟨k0, m0, s0, l⟩ := t
    simp only [list] at hc1 hl hN
    have hnl := length_countL l
    simp only [val, kind, Tree.num, text, list]
    obtain ⟨n, hn⟩ : ∃ n, l.length = n := ⟨_, rfl⟩
    have HN := Lib.hid hn
    rw [hn] at hc1 hnl ⊢
    have HCL := Lib.hid hN
    have hn1 : n ≤ 1000000000 := by omega
    clear hn hN hnl
    go_enter Try.func30, Try.ntmps30
    go_wp2_with fail
    generalize hW1 : World.alloc (World.alloc w _) _ = W1
    have hbk1 : Blk W1 w.heap.size 26 #[.int .i64 k0, .int .i64 m0, .string s0, .slice none 0 0] := by rw [← hW1]; exact (Blk.new w 26 _).alloc _
    have hbk0 : Blk W1 (w.heap.size + 1) 26 #[.int .i64 0, .int .i64 0, .string ⟨#[]⟩, .slice none 0 0] := by rw [← hW1, ← size_alloc w]; exact Blk.new _ 26 _
    have hB1 : Below w.heap.size w W1 := by rw [← hW1]; exact ((Below.refl _ _).alloc (Nat.le_refl _) _).alloc (by simp) _
    have hs1 : W1.heap.size = w.heap.size + 2 := by rw [← hW1]; simp
    have HB1 := Lib.hid hB1
    have HBK0 := Lib.hid hbk0
    have HBK1 := Lib.hid hbk1
    clear hW1 hB1 hbk0 hbk1
    go_loopw [11] (fun i wr => ∃ (q : Nat) (aL : Option Addr) (cL : Nat) (xs : List Value), q ≤ n ∧ i = .int .i64 (q : Nat) ∧ OwnT wr (w.heap.size + 2) (w.heap.size + 2) (.slice aL q cL) (l.take q) xs ∧
      Blk wr (w.heap.size + 1) 26 #[.int .i64 0, .int .i64 0, .string ⟨#[]⟩, .slice none 0 0] ∧ Blk wr w.heap.size 26 #[.int .i64 k0, .int .i64 m0, .string s0, .slice aL q cL] ∧ Below w.heap.size w wr) (fun i _ => n - (intOf i).toNat)
    case atStart => exact ⟨0, none, 0, [], Nat.zero_le _, rfl, OwnT.nil _ _ _, HBK0.out, HBK1.out, HB1.out⟩
    case round =>
      obtain ⟨q, aL, cL, xs, hq, rfl, hO, hbk0, hbk1, hbl⟩ := hrel
      have HO := Lib.hid hO
      have HK0 := Lib.hid hbk0
      have HK1 := Lib.hid hbk1
      have HW := Lib.hid hbl
      have hsz := hbl.size
      have hg0 := hbk0.lt
      have hg1 := hbk1.lt
      have hc3 := hbk1.c3
      have hf3 := hbk1.frozen 3
      by_cases hlt : q < n
      · clear hO hbk0 hbk1 hbl
        rcases hl with h0 | ⟨b, off, rfl, hb, hAL⟩
        · rw [h0] at HN; have := HN.out; simp at this; omega
        have hq' : q < l.length := by rw [HN.out]; exact hlt
        obtain ⟨x, cx, e0, e1, e2, e3, hAt⟩ := AtL.get l b off hAL q hq'
        have cell : ∀ o v, w.cell? ⟨b, o, none⟩ = some v → wr.cell? ⟨b, o, none⟩ = some v := fun o v h => (HW.out.cell (p := ⟨b, o, none⟩) hb).trans h
        have f0 := cell _ _ e0
        have f1 := cell _ _ e1
        have f2 := cell _ _ e2
        have f3 := cell _ _ e3
        have hct := countL_take hq'
        have hcl2 := countL_le l (q + 1)
        have HIH : Hid (∀ W, W.heap = (wr.alloc (.cells #[.int .i64 l[q].kind, .int .i64 l[q].num, .string l[q].text, .slice x l[q].list.length cx] 26)).heap → Calls Try.prog 30 #[val l[q] x cx] W (RetO W l[q])) := fun W e => by
          have hA2 : At (wr.alloc (.cells #[.int .i64 l[q].kind, .int .i64 l[q].num, .string l[q].text, .slice x l[q].list.length cx] 26)) (· < (wr.alloc (.cells #[.int .i64 l[q].kind, .int .i64 l[q].num, .string l[q].text, .slice x l[q].list.length cx] 26)).heap.size) l[q] x cx := at_alloc ((hAt.below HW.out).more hsz) _
          exact (ih _ _ _ _ (by have := HCL.out; omega) (by omega) ((hA2.keep (w' := W) (fun b _ => by rw [e])).imp (fun b hb => by rw [e]; exact hb))).mono fun _ _ h => h.ret
        have HTK : Hid (l.take (q + 1) = l.take q ++ [l[q]]) := List.take_succ_eq_append_getElem hq'
        have HQL : Hid ((l.take q).length = q) := by unfold Hid; rw [List.length_take]; omega
        unfold RetO val at HIH
        clear hAL e0 e1 e2 e3 hAt cell hct hcl2
        go_wp2_with fail
        go_region_law (first
          | (refine step_append_any _ rfl (.tmp 16) (.tmp 19) _ rfl (w.heap.size + 2) 26 i0 _ 4 56 Try.underlying24 hi0 hz0 hz1 hz2 rfl (by omega) (.slice aL q cL) q xs rfl
               (by have := (((HO.out.alloc (.cells #[.int .i64 l[q].kind, .int .i64 l[q].num, .string l[q].text, .slice x l[q].list.length cx] 26)).below HB2.out).alloc (.cells #[.int .i64 l[q].kind, .int .i64 l[q].num, .string l[q].text, .slice a2 l[q].list.length c2] 26)).own; rw [HQL.out] at this; exact this)
               (w2.heap.size + 1) (some ⟨w2.heap.size, 0, none⟩) 1 1 (l[q].item a2 c2) rfl (reads_item w2 l[q] a2 c2) (item_one _ _ _) (by simp only [maxLen]; omega) (by omega) (by simp; omega) ?_
             intro v6 w6 hown6 hg6 hat6
             have hX : OwnT w6 (w.heap.size + 2) (w.heap.size + 2) v6 (l.take q ++ [l[q]]) (xs ++ l[q].item a2 c2) := by
               refine OwnT.push (((HO.out.alloc (.cells #[.int .i64 l[q].kind, .int .i64 l[q].num, .string l[q].text, .slice x l[q].list.length cx] 26)).below HB2.out).alloc (.cells #[.int .i64 l[q].kind, .int .i64 l[q].num, .string l[q].text, .slice a2 l[q].list.length c2] 26)) ?_ (by rw [HQL.out]; exact hown6) hg6 hat6
               refine (HAT.out.keep fun b hb => ((Below.refl w2.heap.size w2).alloc (Nat.le_refl _) _).block b hb.2).imp fun b hb => ⟨by have := hb.1; omega, by have := hb.2; simp; omega, fun e => ?_⟩
               have h1 := (HO.out.own.lt _ e).2
               have := hb.1
               omega
             obtain ⟨g6, c6, hv6, _, _⟩ := hown6.form (by omega)
             subst hv6
             have HX : Hid (OwnT w6 (w.heap.size + 2) (w.heap.size + 2) (.slice (some ⟨g6, 0, none⟩) (q + 1) c6) (l.take (q + 1)) (xs ++ l[q].item a2 c2)) := by unfold Hid; rw [HTK.out]; exact hX
             have hne : ∀ g, g < w.heap.size + 2 → some g ≠ Value.ownBlock (.slice aL q cL) := fun g hg e => by
               have := (HO.out.own.lt _ e.symm).1; omega
             have hk16 := (HK12.out.alloc (.cells #[.int .i64 l[q].kind, .int .i64 l[q].num, .string l[q].text, .slice a2 l[q].list.length c2] 26)).grown hg6 (hne _ (by omega))
             have HK16 := Lib.hid hk16
             have HK06 := Lib.hid ((((HK0.out.alloc (.cells #[.int .i64 l[q].kind, .int .i64 l[q].num, .string l[q].text, .slice x l[q].list.length cx] 26)).below HB2.out (by simp; omega)).alloc (.cells #[.int .i64 l[q].kind, .int .i64 l[q].num, .string l[q].text, .slice a2 l[q].list.length c2] 26)).grown hg6 (hne _ (by omega)))
             have hc36 := hk16.c3
             have hf36 := hk16.frozen 3
             have HW6 : Hid (Below w.heap.size w w6) := (((HW.out.alloc hsz _).trans (HB2.out.mono (by simp; omega))).alloc (by omega) _).grown hg6 (by simp; omega) (fun k hk => by have := (HO.out.own.lt k hk).1; omega)
             clear hown6 hg6 hat6 hX hne hk16)
          | (go_simp
             go_at_call 30
             refine (HIH.out _ ?_).mono ?_
             exact rfl
             rintro e w2 ⟨a2, c2, rfl, hAt, hb2'⟩
             have hb2 : Below (wr.alloc (.cells #[.int .i64 l[q].kind, .int .i64 l[q].num, .string l[q].text, .slice x l[q].list.length cx] 26)).heap.size (wr.alloc (.cells #[.int .i64 l[q].kind, .int .i64 l[q].num, .string l[q].text, .slice x l[q].list.length cx] 26)) w2 := (Below.refl _ (wr.alloc (.cells #[.int .i64 l[q].kind, .int .i64 l[q].num, .string l[q].text, .slice x l[q].list.length cx] 26))).drew.trans hb2'
             have HAT : Hid (At w2 (fun b => wr.heap.size + 1 ≤ b ∧ b < w2.heap.size) l[q] a2 c2) := hAt.imp fun b hb => ⟨by have := hb.1; simp at this; omega, hb.2⟩
             have HB2 := Lib.hid hb2
             have hs2 : wr.heap.size + 1 ≤ w2.heap.size := by have := hb2.size; simp at this; omega
             have hg12 : w.heap.size < w2.heap.size := by omega
             have hk12 := (HK1.out.alloc (.cells #[.int .i64 l[q].kind, .int .i64 l[q].num, .string l[q].text, .slice x l[q].list.length cx] 26)).below hb2 (by simp; omega)
             have HK12 := Lib.hid hk12
             have hc32 := hk12.c3
             have hf32 := hk12.frozen 3
             clear hAt hb2' hb2 hk12))
        all_goals
          go_wp2_with fail
          go_roundw
          case rel =>
            refine ⟨q + 1, some ⟨g6, 0, none⟩, c6, _, by omega, by go_num, HX.out.keep (fun b hb hbl => ?_) (by simp [World.setCell]), HK06.out.far (by show w.heap.size + 1 ≠ w.heap.size; omega) _, HK16.out.set_ 3 _, HW6.out.setCell (by show w.heap.size ≤ w.heap.size; omega) _⟩
            refine Below.heap_setCell w6 _ _ b (fun e => ?_)
            subst e
            rcases hbl with h | h
            · exact absurd h (by show ¬ w.heap.size + 2 ≤ w.heap.size; omega)
            · exact absurd (HX.out.own.lt _ h).1 (by show ¬ w.heap.size + 2 ≤ w.heap.size; omega)
          case measure => simp [intOf]; omega
      · obtain rfl : q = n := by omega
        have hc0 := hbk1.c0
        have hc1 := hbk1.c1
        have hc2 := hbk1.c2
        have hc00 := hbk0.c0
        have hc01 := hbk0.c1
        have hc02 := hbk0.c2
        have hc03 := hbk0.c3
        have hf00 := hbk0.frozen 0
        have hf01 := hbk0.frozen 1
        have hf02 := hbk0.frozen 2
        have hf03 := hbk0.frozen 3
        have HF : Hid (OwnT wr (w.heap.size + 2) (w.heap.size + 2) (.slice aL q cL) l xs) := by
          have := HO.out
          rw [List.take_of_length_le (by rw [HN.out]; exact Nat.le_refl _)] at this
          exact this
        clear hO hbk0 hbk1 hbl
        go_wp2_with fail
        obtain ⟨a6, c6, hv6, _, _, hA6⟩ := HF.out.form k0 m0 s0
        have hOW := HF.out.own
        have hvv : (.slice aL q cL : Value) = .slice aL l.length cL := by rw [HN.out]
        injection hv6 with e1 e2 e3
        subst e1 e3
        refine bodyPost_ret (res_cell rfl (Blk.put4 HK0.out) rfl) rfl ⟨aL, cL, xs, by simp only [val, kind, Tree.num, text, list]; rw [← e2], ?_, ?_, Below.put4_ HW.out (by omega)⟩
        · refine (hA6.keep (w' := put4 wr (w.heap.size + 1) _ _ _ _) fun b hb => put4_block (by have := hb.1; omega)).imp fun b hb => ⟨by have := hb.1; omega, ?_⟩
          have := hb.2
          exact Nat.lt_of_lt_of_eq this put4_size.symm
        · rw [hvv] at hOW
          refine ⟨hOW.1, ?_⟩
          rcases hOW.2 with h0 | ⟨g, cap, cur, hv, hbg, hgg, hr⟩
          · exact .inl h0
          · exact .inr ⟨g, cap, cur, hv, by omega, (put4_block (by omega)).trans hgg, hr⟩
end Go.Proofs.Ytkmikpmbnfcbpaa
