/- The contract of of. -/
import Derived.Test.YtkmikpmbnfcbpaaGm
import Derived.Deep.RegionLaw
namespace Go.Proofs.Ytkmikpmbnfcbpaa
open Go.RowKit Go.Lib
set_option linter.unusedVariables false
open Tree Anyv

namespace Anyv
mutual
/-- What of makes of it, so deep. -/
def ofA : Nat → Anyv → Tree
  | _, .num n => .mk 1 n ⟨#[]⟩ []
  | _, .str s => .mk 2 0 s []
  | _, .flag _ => .mk 0 0 ⟨#[]⟩ []
  | d, .lst l => .mk 3 0 ⟨#[]⟩ (if 20 < d then [] else ofL (d + 1) l)
def ofL : Nat → List Anyv → List Tree
  | _, [] => []
  | d, t :: r => ofA d t :: ofL d r
end
theorem ofL_map (d : Nat) (l : List Anyv) : ofL d l = l.map (ofA d) := by
  induction l with
  | nil => rfl
  | cons t l ih => simp only [ofL, List.map_cons, ih]
theorem ofL_take {d : Nat} {l : List Anyv} {k : Nat} (h : k < l.length) : ofL d (l.take (k + 1)) = ofL d (l.take k) ++ [ofA d l[k]] := by
  rw [ofL_map, ofL_map, List.take_succ_eq_append_getElem h, List.map_append]; rfl
theorem ofL_len (d : Nat) (l : List Anyv) : (ofL d l).length = l.length := by rw [ofL_map, List.length_map]
theorem length_sizeL (l : List Anyv) : l.length ≤ sizeL l := by
  induction l with
  | nil => simp
  | cons t l ih =>
    have : 1 ≤ size t := by cases t <;> simp [size]
    simp only [sizeL, List.length_cons]; omega
end Anyv

theorem ta1_lst (x : Value) (w : World) : (Instr.typeAssert (.iface 59 x) 20 59 false).run Try.prog w = .ok x w := by kernel_rfl

/-- A whole item stored. -/
def put4 (W : World) (g : Nat) (a b c d : Value) : World := (((W.setCell ⟨g, 0, none⟩ a).setCell ⟨g, 1, none⟩ b).setCell ⟨g, 2, none⟩ c).setCell ⟨g, 3, none⟩ d
section
variable {w W : World} {B g k : Nat} {a b c d x y z u : Value}
theorem Blk.put4 (h : Blk W g 26 #[x, y, z, u]) : Blk (put4 W g a b c d) g 26 #[a, b, c, d] := (((h.set_ 0 a).set_ 1 b).set_ 2 c).set_ 3 d
theorem put4_block (h : k ≠ g) : (put4 W g a b c d).heap[k]? = W.heap[k]? := by
  have e : ∀ (W : World) i v, (W.setCell ⟨g, i, none⟩ v).heap[k]? = W.heap[k]? := fun W i v => Below.heap_setCell W ⟨g, i, none⟩ v k h
  unfold Go.Proofs.Ytkmikpmbnfcbpaa.put4
  rw [e, e, e, e]
theorem put4_size : (put4 W g a b c d).heap.size = W.heap.size := by simp [put4, World.setCell]
theorem Below.put4_ (h : Below B w W) (hg : B ≤ g) : Below B w (put4 W g a b c d) := (((h.setCell hg _).setCell hg _).setCell hg _).setCell hg _
end
theorem reads_item (w : World) (t : Tree) (a : Option Addr) (c : Nat) : Reads (w.alloc (.cells #[.int .i64 t.kind, .int .i64 t.num, .string t.text, .slice a t.list.length c] 26)) (w.heap.size + 1) 4 (some ⟨w.heap.size, 0, none⟩) 1 (t.item a c) := reads_new4 w _ _ _ _ _
theorem item_one (t : Tree) (a : Option Addr) (c : Nat) : ∀ u ∈ t.item a c, u.oneCell' = true := by
  intro u hu
  simp [item] at hu
  rcases hu with rfl | rfl | rfl | rfl <;> rfl

def RetO (w : World) (t : Tree) (e : Ending) (w' : World) : Prop := ∃ a c, e = .returned (val t a c) ∧ At w' (fun b => w.heap.size ≤ b ∧ b < w'.heap.size) t a c ∧ Below w.heap.size w w'

set_option maxHeartbeats 4000000 in
theorem of_calls (N : Nat) : ∀ (t : Anyv) (d : Nat) (v : Value) (w : World), t.size ≤ N → N ≤ 1000000000 → d ≤ 21 → Ty d t → Lies w (· < w.heap.size) t v →
    Calls Try.prog 46 #[v, .int .i64 d] w (RetO w (ofA d t)) := by
  induction N with
  | zero => intro t d v w h _ _ _; cases t <;> simp [Anyv.size] at h
  | succ N ih =>
    intro t d v w hN hM hd hT hL
    obtain ⟨i0, hi0, hz0, hz1, hz2⟩ := info_parts item_info
    cases t with
    | num n =>
      simp only [Lies] at hL
      subst hL
      have hx := ta_int_int (.int .i64 n)
      have HC := Lib.hid (fun W => num35 n W)
      unfold val at HC
      go_enter Try.func46, Try.ntmps46
      go_wp2_with fail
      refine (HC.out _).mono ?_
      rintro e w2 ⟨rfl, hb⟩
      have hbk := (Blk.new w 26 #[.int .i64 0, .int .i64 0, .string ⟨#[]⟩, .slice none 0 0]).below hb (by simp)
      have HB : Hid (Below w.heap.size w w2) := ((Below.refl _ _).alloc (Nat.le_refl _) _).trans (hb.mono (by simp))
      have HBK := Lib.hid hbk
      have hc0 := hbk.c0
      have hc1 := hbk.c1
      have hc2 := hbk.c2
      have hc3 := hbk.c3
      have hf0 := hbk.frozen 0
      have hf1 := hbk.frozen 1
      have hf2 := hbk.frozen 2
      have hf3 := hbk.frozen 3
      clear hb hbk
      go_wp2_with fail
      refine bodyPost_ret (res_cell rfl (Blk.put4 HBK.out) rfl) rfl ⟨none, 0, rfl, ?_, Below.put4_ HB.out (Nat.le_refl _)⟩
      simp only [ofA, At]
      exact ⟨Nat.le_refl _, by simp, .inl (by trivial)⟩
    | str s =>
      simp only [Lies] at hL
      subst hL
      have hx := ta_str_int (.string s)
      have hx2 := ta_str_str (.string s)
      have HC := Lib.hid (fun W => str36 s W)
      unfold val at HC
      go_enter Try.func46, Try.ntmps46
      go_wp2_with fail
      refine (HC.out _).mono ?_
      rintro e w2 ⟨rfl, hb⟩
      have hbk := (Blk.new w 26 #[.int .i64 0, .int .i64 0, .string ⟨#[]⟩, .slice none 0 0]).below hb (by simp)
      have HB : Hid (Below w.heap.size w w2) := ((Below.refl _ _).alloc (Nat.le_refl _) _).trans (hb.mono (by simp))
      have HBK := Lib.hid hbk
      have hc0 := hbk.c0
      have hc1 := hbk.c1
      have hc2 := hbk.c2
      have hc3 := hbk.c3
      have hf0 := hbk.frozen 0
      have hf1 := hbk.frozen 1
      have hf2 := hbk.frozen 2
      have hf3 := hbk.frozen 3
      clear hb hbk
      go_wp2_with fail
      refine bodyPost_ret (res_cell rfl (Blk.put4 HBK.out) rfl) rfl ⟨none, 0, rfl, ?_, Below.put4_ HB.out (Nat.le_refl _)⟩
      simp only [ofA, At]
      exact ⟨Nat.le_refl _, by simp, .inl (by trivial)⟩
    | flag b => simp only [Ty] at hT
    | lst l =>
      simp only [Lies] at hL
      obtain ⟨a, c, rfl, h1, h2, h3⟩ := hL
      have H3 := Lib.hid h3
      simp only [Anyv.size] at hN
      have HSZ := Lib.hid hN
      have hlen := length_sizeL l
      have HTY : Hid (d ≤ 20 → ∀ (i : Nat) (h : i < l.length), Ty (d + 1) l[i]) := fun h20 => by
        simp only [Ty, tyL_iff] at hT
        rcases hT with h | h
        · omega
        · exact h
      obtain ⟨n, hn⟩ : ∃ n, l.length = n := ⟨_, rfl⟩
      have HN := Lib.hid hn
      rw [hn] at h1 hlen ⊢
      have hn1 : n ≤ 1000000000 := by omega
      have hx := ta_lst_int (.slice a n c)
      have hx2 := ta_lst_str (.slice a n c)
      have hx3 := ta1_lst (.slice a n c)
      clear h3 hN hn hlen hT
      by_cases hd2 : 20 < d
      · have HE : Hid (ofA d (.lst l) = .mk 3 0 ⟨#[]⟩ []) := by unfold Hid; simp only [ofA, if_pos hd2]
        go_enter Try.func46, Try.ntmps46
        go_wp2_with fail
        rw [HE.out]
        refine bodyPost_ret (res_cell rfl ((Blk.new w 26 _).alloc _) rfl) rfl ⟨none, 0, rfl, ?_, ((Below.refl _ _).alloc (Nat.le_refl _) _).alloc (by simp) _⟩
        simp only [At]
        exact ⟨Nat.le_refl _, by simp, .inl (by trivial)⟩
      · have HE : Hid (ofA d (.lst l) = .mk 3 0 ⟨#[]⟩ (ofL (d + 1) l)) := by unfold Hid; simp only [ofA, if_neg hd2]
        rw [HE.out]
        go_enter Try.func46, Try.ntmps46
        go_wp2_with fail
        generalize hW1 : World.alloc (World.alloc w _) _ = W1
        have hbk0 : Blk W1 w.heap.size 26 #[.int .i64 0, .int .i64 0, .string ⟨#[]⟩, .slice none 0 0] := by rw [← hW1]; exact (Blk.new w 26 _).alloc _
        have hbk1 : Blk W1 (w.heap.size + 1) 26 #[.int .i64 3, .int .i64 0, .string ⟨#[]⟩, .slice none 0 0] := by rw [← hW1, ← size_alloc w]; exact Blk.new _ 26 _
        have hB1 : Below w.heap.size w W1 := by rw [← hW1]; exact ((Below.refl _ _).alloc (Nat.le_refl _) _).alloc (by simp) _
        have hs1 : W1.heap.size = w.heap.size + 2 := by rw [← hW1]; simp
        have HB1 := Lib.hid hB1
        have HBK0 := Lib.hid hbk0
        have HBK1 := Lib.hid hbk1
        clear hW1 hB1 hbk0 hbk1
        go_loopw [30] (fun i wr => ∃ (q : Nat) (aL : Option Addr) (cL : Nat) (xs : List Value), q ≤ n ∧ i = .int .i64 (q : Nat) ∧ OwnT wr (w.heap.size + 2) (w.heap.size + 2) (.slice aL q cL) (ofL (d + 1) (l.take q)) xs ∧
          Blk wr w.heap.size 26 #[.int .i64 0, .int .i64 0, .string ⟨#[]⟩, .slice none 0 0] ∧ Blk wr (w.heap.size + 1) 26 #[.int .i64 3, .int .i64 0, .string ⟨#[]⟩, .slice aL q cL] ∧ Below w.heap.size w wr) (fun i _ => n - (intOf i).toNat)
        case atStart => exact ⟨0, none, 0, [], Nat.zero_le _, rfl, OwnT.nil _ _ _, HBK0.out, HBK1.out, HB1.out⟩
        case round =>
          obtain ⟨q, aL, cL, xs, hq, rfl, hO, hbk0, hbk1, hbl⟩ := hrel
          have HO := Lib.hid hO
          have HK0 := Lib.hid hbk0
          have HK1 := Lib.hid hbk1
          have HW := Lib.hid hbl
          have hsz := hbl.size
          have hg1 := hbk1.lt
          have hc3 := hbk1.c3
          have hf3 := hbk1.frozen 3
          by_cases hlt : q < n
          · clear hO hbk0 hbk1 hbl
            rcases H3.out with h0 | ⟨b, off, rfl, hb, hLL⟩
            · rw [h0] at HN; have := HN.out; simp at this; omega
            have hq' : q < l.length := by rw [HN.out]; exact hlt
            obtain ⟨u, hu1, hu2⟩ := LiesL.get l b off hLL q hq'
            have hcell : wr.cell? ⟨b, off + q, none⟩ = some u := (HW.out.cell (p := ⟨b, off + q, none⟩) hb).trans hu1
            obtain ⟨tu, htu⟩ : ∃ tu, ofA (d + 1) l[q] = tu := ⟨_, rfl⟩
            have HIH : Hid (∀ W, W.heap = wr.heap → Calls Try.prog 46 #[u, .int .i64 ((d : Int) + 1)] W (RetO W tu)) := fun W e => by
              have hL2 : Lies W (· < W.heap.size) l[q] u := ((hu2.below HW.out).more hsz).keep (fun b _ => by rw [e]) |>.imp (fun b hb => by rw [e]; exact hb)
              have := ih l[q] (d + 1) u W (by have := HSZ.out; have := sizeL_get l q hq'; omega) (by omega) (by omega) (HTY.out (by omega) q hq') hL2
              rw [htu] at this
              simpa using this
            have HTK : Hid (ofL (d + 1) (l.take (q + 1)) = ofL (d + 1) (l.take q) ++ [tu]) := by unfold Hid; rw [ofL_take hq', htu]
            have HQL : Hid ((ofL (d + 1) (l.take q)).length = q) := by unfold Hid; rw [ofL_len, List.length_take]; omega
            unfold RetO val at HIH
            have hwd : IntKind.i64.wrap ((d : Int) + 1) = (d : Int) + 1 := IntWalk.i64_in _ (by omega)
            clear hLL hu1 hu2 htu
            go_wp2_with fail
            go_region_law (first
              | (refine step_append_any _ rfl (.tmp 35) (.tmp 40) _ rfl (w.heap.size + 2) 26 i0 _ 4 56 Try.underlying24 hi0 hz0 hz1 hz2 rfl (by omega) (.slice aL q cL) q xs rfl
                   (by have := ((HO.out.below HB2.out).alloc (.cells #[.int .i64 tu.kind, .int .i64 tu.num, .string tu.text, .slice a' tu.list.length c'] 26)).own; rw [HQL.out] at this; exact this)
                   (w2.heap.size + 1) (some ⟨w2.heap.size, 0, none⟩) 1 1 (tu.item a' c') rfl (reads_item w2 tu a' c') (item_one _ _ _) (by simp only [maxLen]; omega) (by omega) (by simp; omega) ?_
                 intro v6 w6 hown6 hg6 hat6
                 have hX : OwnT w6 (w.heap.size + 2) (w.heap.size + 2) v6 (ofL (d + 1) (l.take q) ++ [tu]) (xs ++ tu.item a' c') := by
                   refine OwnT.push ((HO.out.below HB2.out).alloc (.cells #[.int .i64 tu.kind, .int .i64 tu.num, .string tu.text, .slice a' tu.list.length c'] 26)) ?_ (by rw [HQL.out]; exact hown6) hg6 hat6
                   refine (HAT.out.keep fun b hb => ((Below.refl w2.heap.size w2).alloc (Nat.le_refl _) _).block b hb.2).imp fun b hb => ⟨by omega, by simp; omega, fun e => ?_⟩
                   have h1 := (HO.out.own.lt _ e).2
                   omega
                 obtain ⟨g6, c6, hv6, _, _⟩ := hown6.form (by omega)
                 subst hv6
                 have HX : Hid (OwnT w6 (w.heap.size + 2) (w.heap.size + 2) (.slice (some ⟨g6, 0, none⟩) (q + 1) c6) (ofL (d + 1) (l.take (q + 1))) (xs ++ tu.item a' c')) := by unfold Hid; rw [HTK.out]; exact hX
                 have hne : ∀ g, g < w.heap.size + 2 → some g ≠ Value.ownBlock (.slice aL q cL) := fun g hg e => by
                   have := (HO.out.own.lt _ e.symm).1; omega
                 have hk16 := (HK12.out.alloc (.cells #[.int .i64 tu.kind, .int .i64 tu.num, .string tu.text, .slice a' tu.list.length c'] 26)).grown hg6 (hne _ (by omega))
                 have HK16 := Lib.hid hk16
                 have HK06 := Lib.hid (((HK0.out.below HB2.out (by omega)).alloc (.cells #[.int .i64 tu.kind, .int .i64 tu.num, .string tu.text, .slice a' tu.list.length c'] 26)).grown hg6 (hne _ (by omega)))
                 have hc36 := hk16.c3
                 have hf36 := hk16.frozen 3
                 have HW6 : Hid (Below w.heap.size w w6) := ((HW.out.trans (HB2.out.mono hsz)).alloc (by omega) _).grown hg6 (by simp; omega) (fun k hk => by have := (HO.out.own.lt k hk).1; omega)
                 clear hown6 hg6 hat6 hX hne hk16)
              | (go_simp
                 go_at_call 46
                 refine (HIH.out _ ?_).mono ?_
                 exact rfl
                 rintro e w2 ⟨a', c', rfl, hAt, hb2'⟩
                 have hb2 : Below wr.heap.size wr w2 := (Below.refl wr.heap.size wr).drew.trans hb2'
                 have HAT : Hid (At w2 (fun b => wr.heap.size ≤ b ∧ b < w2.heap.size) tu a' c') := hAt
                 have HB2 := Lib.hid hb2
                 have hs2 := hb2.size
                 have hg12 : w.heap.size + 1 < w2.heap.size := by omega
                 have hk12 := HK1.out.below hb2 hg1
                 have HK12 := Lib.hid hk12
                 have hc32 := hk12.c3
                 have hf32 := hk12.frozen 3
                 clear hAt hb2' hb2 hk12))
            all_goals
              go_wp2_with fail
              go_roundw
              case rel =>
                refine ⟨q + 1, some ⟨g6, 0, none⟩, c6, _, by omega, by go_num, HX.out.keep (fun b hb hbl => ?_) (by simp [World.setCell]), HK06.out.far (by show w.heap.size ≠ w.heap.size + 1; omega) _, HK16.out.set_ 3 _, HW6.out.setCell (by show w.heap.size ≤ w.heap.size + 1; omega) _⟩
                refine Below.heap_setCell w6 _ _ b (fun e => ?_)
                subst e
                rcases hbl with h | h
                · simp at h
                · have := (HX.out.own.lt _ h).1; simp at this
              case measure => simp [intOf]; omega
          · obtain rfl : q = n := by omega
            have hc0 := hbk1.c0
            have hc1 := hbk1.c1
            have hc2 := hbk1.c2
            have hc00 := hbk0.c0
            have hc01 := hbk0.c1
            have hc02 := hbk0.c2
            have hc03 := hbk0.c3
            have hf00 := hbk0.frozen 0
            have hf01 := hbk0.frozen 1
            have hf02 := hbk0.frozen 2
            have hf03 := hbk0.frozen 3
            have HF : Hid (OwnT wr (w.heap.size + 2) (w.heap.size + 2) (.slice aL q cL) (ofL (d + 1) l) xs) := by
              have := HO.out
              rw [List.take_of_length_le (by rw [HN.out]; exact Nat.le_refl _)] at this
              exact this
            clear hO hbk0 hbk1 hbl
            go_wp2_with fail
            obtain ⟨a6, c6, hv6, _, _, hA6⟩ := HF.out.form 3 0 ⟨#[]⟩
            injection hv6 with e1 e2 e3
            subst e1 e3
            refine bodyPost_ret (res_cell rfl (Blk.put4 HK0.out) rfl) rfl ⟨aL, cL, by simp only [val, kind, Tree.num, text, list]; rw [← e2], ?_, Below.put4_ HW.out (Nat.le_refl _)⟩
            refine (hA6.keep (w' := put4 wr w.heap.size _ _ _ _) fun b hb => put4_block (by have := hb.1; omega)).imp fun b hb => ⟨by have := hb.1; omega, ?_⟩
            have := hb.2
            exact Nat.lt_of_lt_of_eq this put4_size.symm
end Go.Proofs.Ytkmikpmbnfcbpaa
