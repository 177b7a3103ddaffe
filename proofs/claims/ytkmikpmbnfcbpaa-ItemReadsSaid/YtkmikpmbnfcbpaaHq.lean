/- The contract of the reference's read, of a list. -/
import Derived.Test.YtkmikpmbnfcbpaaHp
namespace Go.Proofs.Ytkmikpmbnfcbpaa
open Go.RowKit Go.Lib
set_option linter.unusedVariables false
open Tree

theorem Pz.mono {d L L' : Int} {bs r : List UInt8} {t : Tree} (h : Pz d L bs t r) (hL : L ≤ L') : Pz d L' bs t r := ⟨h.right, h.wf, h.deep, by have := h.cnt; omega, h.eq⟩
theorem PzL.mono {d L L' : Int} {bs r : List UInt8} {l : List Tree} (h : PzL d L bs l r) (hL : L ≤ L') : PzL d L' bs l r := ⟨h.right, h.wf, h.deep, by have := h.cnt; omega, h.eq⟩
theorem pzL_no_any {d L L' : Int} {bs r r' : List UInt8} {l m : List Tree} (hs : bs.length ≤ 4294967295) (h : PzL d L bs l r) (hlt : l.length < m.length) (hno : ∀ L t x, ¬ Pz d L r t x) : ¬ PzL d L' bs m r' := fun k =>
  pzL_no (L := max L L') hs (h.mono (by omega)) hlt (hno _) (k.mono (by omega))

set_option maxHeartbeats 4000000 in
theorem read_lst (w : World) (n cap p dp K : Nat) (A : Option Addr) (bs : List UInt8) (hB : Byt w w.heap.size A n bs) (hn : n ≤ 4194304) (hdp : dp ≤ 20) (hpn : p + 5 ≤ n) (hb : (bs.getD p 0).toNat = K)
    (hk : K = 3) (hX : ofBe ((bs.drop (p + 1)).take 4) ≤ n - (p + 5))
    (ih : ∀ (W : World) (q : Nat), q ≤ n → Byt W W.heap.size A n bs → Calls Try.prog 39 #[.slice A n cap, .int .i64 q, .int .i64 ((dp : Int) + 1)] W (RdQ W (20 - dp) bs q)) :
    Calls Try.prog 39 #[.slice A n cap, .int .i64 p, .int .i64 dp] w (RdQ w (21 - dp) bs p) := by
  have hbl := hB.1
  have hlen : ((bs.drop (p + 1)).drop 4).length = n - (p + 5) := by rw [List.length_drop, List.length_drop]; omega
  have HPI : Hid (∀ (l : List Tree) (k : Nat), l.length = ofBe ((bs.drop (p + 1)).take 4) → PzL (20 - dp) (countL l) (bs.drop (p + 5)) l (bs.drop k) → Pz (21 - dp) (Tree.mk 3 0 ⟨#[]⟩ l).count (bs.drop p) (.mk 3 0 ⟨#[]⟩ l) (bs.drop k)) := fun l k h1 h2 => by
    rw [drop_at (by omega)]
    refine pz_list (hb.trans hk) (by rw [List.length_drop]; omega) h1 ?_
    have e1 : (21 : Int) - dp - 1 = 20 - dp := by omega
    have e2 : ((Tree.mk 3 0 ⟨#[]⟩ l).count : Int) - 1 = countL l := by rw [count_eq]; simp only [list]; omega
    have e3 : (bs.drop (p + 1)).drop 4 = bs.drop (p + 5) := by rw [List.drop_drop]
    rw [e1, e2, e3]
    exact h2
  have HNI : Hid (∀ (L : Int) (u : Tree) (x : List UInt8), Pz (21 - dp) L (bs.drop p) u x → PzL (20 - dp) (L - 1) (bs.drop (p + 5)) u.list x ∧ u.list.length = ofBe ((bs.drop (p + 1)).take 4)) := fun L u x h => by
    rw [drop_at (by omega)] at h
    have := pz_lst (hb.trans hk) (by rw [List.length_drop]; omega) h
    have e1 : (21 : Int) - dp - 1 = 20 - dp := by omega
    have e3 : (bs.drop (p + 1)).drop 4 = bs.drop (p + 5) := by rw [List.drop_drop]
    rw [e1, e3] at this
    exact this
  have HST : Hid (PzL (20 - dp) (countL []) (bs.drop (p + 5)) [] (bs.drop (p + 5))) := pzL_nil _ (by omega) (by simp [countL])
  have HBL := Lib.hid hbl
  have HBY := Lib.hid hB
  have HIH := Lib.hid ih
  obtain ⟨i0, hi0, hz0, hz1, hz2⟩ := info_parts item_info
  have hXl : ofBe ((bs.drop (p + 1)).take 4) < 4294967296 := by
    have h := ofBe_lt ((bs.drop (p + 1)).take 4)
    have hl : ((bs.drop (p + 1)).take 4).length = 4 := by rw [List.length_take, List.length_drop]; omega
    rw [hl] at h
    exact h
  obtain ⟨b0, off, rfl, hb0, hc⟩ := hB.at_ (i := p) (by omega)
  have f0 : w.cell? ⟨b0, off + p, none⟩ = some (.int .u8 K) := by rw [hc p (by omega), hb]
  have HC : Hid (∀ W, Below w.heap.size w W → Calls Try.prog 54 #[.slice (some ⟨b0, off, none⟩) n cap, .int .i64 ((p : Int) + 1), .int .i64 4] W fun e w' => e = .returned (.int .u64 (ofBe ((bs.drop (p + 1)).take 4) : Nat)) ∧ w' = W) := fun W hW =>
    get54 W w.heap.size n cap (p + 1) 4 _ bs _ (hB.below hW) hn (by omega) (by omega) rfl
  obtain ⟨X, hXX⟩ : ∃ X, ofBe ((bs.drop (p + 1)).take 4) = X := ⟨_, rfl⟩
  rw [hXX] at hXl hX HC HPI HNI
  have hwX : IntKind.i64.wrap (X : Int) = X := IntWalk.i64_in _ (by omega)
  have hw1 : IntKind.i64.wrap ((p : Int) + 1) = (p : Int) + 1 := IntWalk.i64_in _ (by omega)
  have hw4 : IntKind.i64.wrap ((p : Int) + 1 + 4) = (p : Int) + 1 + 4 := IntWalk.i64_in _ (by omega)
  have hw5 : IntKind.i64.wrap ((n : Int) - ((p : Int) + 1 + 4)) = (n : Int) - ((p : Int) + 1 + 4) := IntWalk.i64_in _ (by omega)
  have hq1 : ¬ ((n : Int) ≤ (p : Int)) := by omega
  have hq2 : ¬ ((20 : Int) < (dp : Int)) := by omega
  have hq4 : ¬ ((n : Int) < (p : Int) + 1 + 4) := by omega
  have hwd : IntKind.i64.wrap ((dp : Int) + 1) = (dp : Int) + 1 := IntWalk.i64_in _ (by omega)
  have hq5 : ¬ ((n : Int) - ((p : Int) + 1 + 4) < (X : Int)) := by omega
  have HX := Lib.hid hX
  clear hB hc hb hbl hlen hXX ih
  subst hk
  go_enter Try.func39, Try.ntmps39
  go_wp2_with fail
  refine (HC.out _ ((Below.refl _ _).alloc (Nat.le_refl _) _)).mono ?_
  rintro e w2 ⟨rfl, rfl⟩
  go_wp2_with fail
  generalize hW1 : World.alloc (World.alloc w _) _ = W1
  have hbk0 : Blk W1 w.heap.size 26 #[.int .i64 0, .int .i64 0, .string ⟨#[]⟩, .slice none 0 0] := by rw [← hW1]; exact (Blk.new w 26 _).alloc _
  have hbk1 : Blk W1 (w.heap.size + 1) 26 #[.int .i64 3, .int .i64 0, .string ⟨#[]⟩, .slice none 0 0] := by rw [← hW1, ← size_alloc w]; exact Blk.new _ 26 _
  have hB1 : Below w.heap.size w W1 := by rw [← hW1]; exact ((Below.refl _ _).alloc (Nat.le_refl _) _).alloc (by simp) _
  have hs1 : W1.heap.size = w.heap.size + 2 := by rw [← hW1]; simp
  have HB1 := Lib.hid hB1
  have HBK0 := Lib.hid hbk0
  have HBK1 := Lib.hid hbk1
  clear hW1 hB1 hbk0 hbk1
  go_loopw [1, 11] (fun at_ i wr => ∃ (q pp : Nat) (aL : Option Addr) (cL : Nat) (l : List Tree) (xs : List Value), q ≤ X ∧ i = .int .i64 (q : Nat) ∧ at_ = .int .i64 (pp : Nat) ∧ l.length = q ∧ OwnT wr (w.heap.size + 2) (w.heap.size + 2) (.slice aL q cL) l xs ∧
      Blk wr w.heap.size 26 #[.int .i64 0, .int .i64 0, .string ⟨#[]⟩, .slice none 0 0] ∧ Blk wr (w.heap.size + 1) 26 #[.int .i64 3, .int .i64 0, .string ⟨#[]⟩, .slice aL q cL] ∧ Below w.heap.size w wr ∧ p < pp ∧ pp ≤ n ∧ PzL (20 - dp) (countL l) (bs.drop (p + 5)) l (bs.drop pp)) (fun _ i _ => X - (intOf i).toNat)
  case atStart => exact ⟨0, p + 5, none, 0, [], [], Nat.zero_le _, rfl, by go_num, rfl, OwnT.nil _ _ _, HBK0.out, HBK1.out, HB1.out, by omega, by omega, HST.out⟩
  case round =>
    obtain ⟨q, pp, aL, cL, l, xs, hq, rfl, rfl, hl, hO, hbk0, hbk1, hbl, hpp1, hpp2, hpz⟩ := hrel
    have HO := Lib.hid hO
    have HK0 := Lib.hid hbk0
    have HK1 := Lib.hid hbk1
    have HW := Lib.hid hbl
    have HPZ := Lib.hid hpz
    have HLQ := Lib.hid hl
    have hsz := hbl.size
    have hg1 := hbk1.lt
    by_cases hlt : q < X
    · have HCC : Hid (Calls Try.prog 39 #[.slice (some ⟨b0, off, none⟩) n cap, .int .i64 pp, .int .i64 ((dp : Int) + 1)] wr (RdQ wr (20 - dp) bs pp)) := HIH.out wr pp hpp2 ((HBY.out.below hbl).more hsz)
      unfold RdQ val at HCC
      have hltz : (q : Int) < (X : Int) := by omega
      have hwq : IntKind.i64.wrap ((q : Int) + 1) = (q : Int) + 1 := IntWalk.i64_in _ (by omega)
      clear hO hbk0 hbk1 hbl hl hpz
      go_wp2_with fail
      refine HCC.out.mono ?_
      rintro e w2 ⟨tu, a', c', z, rfl, hAt, hb2, hP⟩
      have HAT := Lib.hid hAt
      have HB2 := Lib.hid hb2
      have hs2 := hb2.size
      have hk02 := HK0.out.below hb2 (by omega)
      have hk12 := HK1.out.below hb2 hg1
      have HK02 := Lib.hid hk02
      have HK12 := Lib.hid hk12
      have HO2 := Lib.hid (HO.out.below hb2)
      have HW2 : Hid (Below w.heap.size w w2) := HW.out.trans (hb2.mono hsz)
      have h20 := hk02.c0
      have h21 := hk02.c1
      have h22 := hk02.c2
      have h23 := hk02.c3
      have h2f0 := hk02.frozen 0
      have h2f1 := hk02.frozen 1
      have h2f2 := hk02.frozen 2
      have h2f3 := hk02.frozen 3
      have hc32 := hk12.c3
      have hf32 := hk12.frozen 3
      have hgw0 : w.heap.size < w2.heap.size := by omega
      have hgw1 : w.heap.size + 1 < w2.heap.size := by omega
      clear hAt hb2 hk02 hk12
      rcases hP with ⟨k, rfl, hk1, hk2, hpz⟩ | ⟨rfl, hno⟩
      · have HP2 := Lib.hid hpz
        have hkz : ¬ ((k : Int) < 0) := by omega
        have hkn : k ≤ n := by have := HBL.out; omega
        clear hpz
        go_wp2_with (first
          | (at_builtin
             refine wpList_append_any _ rfl (.tmp 104) (.tmp 106) _ rfl (w.heap.size + 2) 26 i0 _ 4 56 Try.underlying24 hi0 hz0 hz1 hz2 rfl (by omega) (.slice aL q cL) q xs rfl
               (by have := ((HO2.out.alloc (.cells #[.int .i64 tu.kind, .int .i64 tu.num, .string tu.text, .slice a' tu.list.length c'] 26)).alloc (.cells #[.int .i64 tu.kind, .int .i64 tu.num, .string tu.text, .slice a' tu.list.length c'] 26)).own; rw [HLQ.out] at this; exact this)
               (w2.heap.size + 2) (some ⟨w2.heap.size + 1, 0, none⟩) 1 1 (tu.item a' c') rfl (by have := reads_item (w2.alloc (.cells #[.int .i64 tu.kind, .int .i64 tu.num, .string tu.text, .slice a' tu.list.length c'] 26)) tu a' c'; rw [size_alloc] at this; exact this) (item_one _ _ _) (by simp only [maxLen]; omega) (by omega) (by simp; omega) ?_
             intro v6 w6 hown6 hg6 hat6
             have hX : OwnT w6 (w.heap.size + 2) (w.heap.size + 2) v6 (l ++ [tu]) (xs ++ tu.item a' c') := by
               refine OwnT.push ((HO2.out.alloc (.cells #[.int .i64 tu.kind, .int .i64 tu.num, .string tu.text, .slice a' tu.list.length c'] 26)).alloc (.cells #[.int .i64 tu.kind, .int .i64 tu.num, .string tu.text, .slice a' tu.list.length c'] 26)) ?_ (by rw [HLQ.out]; exact hown6) hg6 hat6
               refine (HAT.out.keep fun b hb => (((Below.refl w2.heap.size w2).alloc (Nat.le_refl _) _).alloc (by simp) _).block b hb.2).imp fun b hb => ⟨by omega, by simp; omega, fun e => ?_⟩
               have h1 := (HO.out.own.lt _ e).2
               omega
             obtain ⟨g6, c6, hv6, _, _⟩ := hown6.form (by omega)
             subst hv6
             have HX := Lib.hid hX
             have hne : ∀ g, g < w.heap.size + 2 → some g ≠ Value.ownBlock (.slice aL q cL) := fun g hg e => by
               have := (HO.out.own.lt _ e.symm).1; omega
             have hk16 := ((HK12.out.alloc (.cells #[.int .i64 tu.kind, .int .i64 tu.num, .string tu.text, .slice a' tu.list.length c'] 26)).alloc (.cells #[.int .i64 tu.kind, .int .i64 tu.num, .string tu.text, .slice a' tu.list.length c'] 26)).grown hg6 (hne _ (by omega))
             have HK16 := Lib.hid hk16
             have HK06 := Lib.hid (((HK02.out.alloc (.cells #[.int .i64 tu.kind, .int .i64 tu.num, .string tu.text, .slice a' tu.list.length c'] 26)).alloc (.cells #[.int .i64 tu.kind, .int .i64 tu.num, .string tu.text, .slice a' tu.list.length c'] 26)).grown hg6 (hne _ (by omega)))
             have hc36 := hk16.c3
             have hf36 := hk16.frozen 3
             have HW6 : Hid (Below w.heap.size w w6) := ((HW2.out.alloc (by omega) _).alloc (by simp; omega) _).grown hg6 (by simp; omega) (fun k hk => by have := (HO.out.own.lt k hk).1; omega)
             clear hown6 hg6 hat6 hX hne hk16))
        go_wp2_with fail
        go_roundw
        case rel =>
          have hO6 := HX.out.keep (w' := w6.setCell ⟨w.heap.size + 1, 3, none⟩ (.slice (some ⟨g6, 0, none⟩) (q + 1) c6)) (fun b hb hbl => Below.heap_setCell w6 _ _ b (fun e => by
            subst e
            rcases hbl with h | h
            · simp at h
            · have := (HX.out.own.lt _ h).1; simp at this)) (by simp [World.setCell])
          refine ⟨q + 1, k, some ⟨g6, 0, none⟩, c6, l ++ [tu], _, by omega, by go_num, rfl, by simp [HLQ.out], hO6, HK06.out.far (by show w.heap.size ≠ w.heap.size + 1; omega) _, HK16.out.set_ 3 _, HW6.out.setCell (by show w.heap.size ≤ w.heap.size + 1; omega) _, by omega, hkn, ?_⟩
          refine pzL_snoc (L := (countL (l ++ [tu]) : Int)) (HPZ.out.mono ?_) (HP2.out.mono ?_)
          · rw [countL_append]; omega
          · rw [countL_append]; simp only [countL]; omega
        case measure => simp [intOf]; omega
      · have HNO := Lib.hid hno
        clear hno
        go_wp2_with fail
        refine bodyPost_ret (res_cell_tmp rfl ((Blk.put4 HK02.out).alloc _) rfl rfl) rfl ⟨.mk 0 0 ⟨#[]⟩ [], none, 0, _, rfl, at_leaf _ _ _ _ _, (Below.put4_ HW2.out (Nat.le_refl _)).alloc (by rw [put4_size]; omega) _, .inr ⟨rfl, fun L u x hu => ?_⟩⟩
        obtain ⟨k1, k2⟩ := HNI.out L u x hu
        have hll := HLQ.out
        have hbb := HBL.out
        exact pzL_no_any (by rw [List.length_drop]; omega) HPZ.out (by omega) HNO.out k1
    · obtain rfl : q = X := by omega
      have h00 := hbk0.c0
      have h01 := hbk0.c1
      have h02 := hbk0.c2
      have h03 := hbk0.c3
      have hf00 := hbk0.frozen 0
      have hf01 := hbk0.frozen 1
      have hf02 := hbk0.frozen 2
      have hf03 := hbk0.frozen 3
      have h10 := hbk1.c0
      have h11 := hbk1.c1
      have h12 := hbk1.c2
      have h13 := hbk1.c3
      have HFIN : Hid (∀ W, W = put4 wr w.heap.size (.int .i64 3) (.int .i64 0) (.string ⟨#[]⟩) (.slice aL q cL) → Blk W w.heap.size 26 #[.int .i64 3, .int .i64 0, .string ⟨#[]⟩, .slice aL q cL] ∧ RdQ w (21 - dp) bs p (.returned (.tuple #[.agg #[.int .i64 3, .int .i64 0, .string ⟨#[]⟩, .slice aL q cL], .int .i64 pp])) W) := fun W hW => by
        subst hW
        refine ⟨Blk.put4 HK0.out, ?_⟩
        obtain ⟨a6, c6, hv6, _, _, hA6⟩ := HO.out.form 3 0 ⟨#[]⟩
        injection hv6 with e1 e2 e3
        subst e1 e3
        refine ⟨.mk 3 0 ⟨#[]⟩ l, aL, cL, (pp : Nat), by simp only [val, kind, Tree.num, text, list]; rw [← e2], ?_, Below.put4_ HW.out (Nat.le_refl _), .inl ⟨pp, rfl, by omega, by have := HBL.out; omega, HPI.out l pp (by rw [HLQ.out]) HPZ.out⟩⟩
        refine (hA6.keep (w' := put4 wr w.heap.size _ _ _ _) fun b hb => put4_block (by have := hb.1; omega)).imp fun b hb => ⟨by have := hb.1; omega, ?_⟩
        have := hb.2
        exact Nat.lt_of_lt_of_eq this put4_size.symm
      clear hO hbk0 hbk1 hbl hl hpz
      go_wp2_with fail
      exact bodyPost_ret (res_cell_tmp (e := .int .i64 pp) rfl (HFIN.out _ rfl).1 rfl rfl) rfl (HFIN.out _ rfl).2
end Go.Proofs.Ytkmikpmbnfcbpaa
