/- Contracts of Open and Tear. -/
import Derived.Test.YtnolmcdahpkcnaaFq
namespace Go.Proofs.Ytnolmcdahpkcnaa
open Go.RowKit
set_option linter.unusedVariables false

def RetJ (w : World) (n : Nat) (s : List (List UInt8) × Nat × Int) (bs : List UInt8) (e : Ending) (w' : World) : Prop :=
  ∃ g, e = .returned (.tuple #[.pointer (some ⟨g, 0, none⟩), .int .i64 ((n : Int) - s.2.1), .int .i64 s.2.2]) ∧ Jrn w' w.heap.size g (bs.take s.2.1) s.1 ∧ Below w.heap.size w w'

theorem OwnB.base {w : World} {base base' : Nat} {v : Value} {bs : List UInt8} (h : OwnB w base v bs) (hb : base' ≤ base) : OwnB w base' v bs := World.ownsRow.base h hb

theorem jrn_new {w w2 : World} {base : Nat} {vb vl : Value} {rows : List Value} {bs : List UInt8} {bss : List (List UInt8)} (hb : OwnB w2 w.heap.size vb bs) (hl : OwnR w base vl rows bss) (hbel : Below w.heap.size w w2) (hbase : base ≤ w.heap.size) :
    JrnV (w2.alloc (.cells #[vb, vl] 60)) base w2.heap.size vb vl rows bs bss where
  at_ := Nat.le_trans hbase hbel.size
  blk := Blk.new _ _ _
  bytes := (hb.base hbase).below ((Below.refl _ _).alloc (Nat.le_refl _) _)
  list := ((hl.below hbel).below ((Below.refl _ _).alloc (Nat.le_refl _) _)).list
  len := hl.len
  recs := fun i hi => by
    obtain ⟨u, h1, h2⟩ := ((hl.below hbel).below ((Below.refl w2.heap.size w2).alloc (Nat.le_refl _) (.cells #[vb, vl] 60))).recs i hi
    obtain ⟨u', h1', h2'⟩ := hl.recs i hi
    rw [h1] at h1'
    injection h1' with h1'
    subst h1'
    refine ⟨u, h1, h2, ?_⟩
    cases hk : u.ownBlock with
    | none => exact .inl rfl
    | some k =>
      right
      intro e
      have h3 := (h2'.lt k hk).2
      have h4 := (hb.lt k e.symm).1
      omega

set_option maxHeartbeats 1000000 in
theorem open_calls (w : World) (a : Option Addr) (n cap : Nat) (bs : List UInt8) (hr : Byt w w.heap.size a n bs) (hc1 : n ≤ cap) (hc2 : cap ≤ 9223372036854775807) (hn : n ≤ 4194304) :
    Calls Try.prog 22 #[.slice a n cap] w (RetJ w n (scanS bs) bs) := by
  obtain ⟨i0, hi0, hz0, hz1, hz2⟩ := info_parts byte_info
  have HL := Lib.hid hr.1
  have hat := scan_at bs
  rw [hr.1] at hat
  have HR := Lib.hid hr
  have hsc : Hid (Calls Try.prog 19 #[.slice a n cap] w (RetS w (scanS bs))) := scan_calls w a n cap bs hr hc1 hc2 (by omega)
  obtain ⟨sl, sk, sx, hs⟩ : ∃ sl sk sx, scanS bs = (sl, sk, sx) := ⟨_, _, _, rfl⟩
  rw [hs] at hsc hat ⊢
  simp only at hat
  clear hr hs
  obtain ⟨A1, r1, y1⟩ := cut_to HR.out hc1 sk hat
  have Y1 := Lib.hid y1
  clear y1
  go_enter Try.func22, Try.ntmps22
  go_wp2_with fail
  refine hsc.out.mono ?_
  rintro e w1 ⟨v1, rows1, rfl, hR1, hb1⟩
  obtain ⟨A2, c2, hv1, _, _, _⟩ := hR1.form
  subst hv1
  have HR1 := Lib.hid hR1
  have HB1 := Lib.hid hb1
  have hs1 := hb1.size
  clear hR1 hb1
  simp only
  go_wp2_with (first
    | (at_builtin
       refine wpList_append_any _ rfl (.const (.slice none 0 0)) (.tmp 19) _ rfl w1.heap.size 5 i0 _ 1 1 Try.underlying22 hi0 hz0 hz1 hz2 rfl (by omega) (.slice none 0 0) 0 [] rfl
         (World.ownsRow_nil _ _ _ _) w.heap.size A1 sk cap (cells (bs.take sk)) rfl (Y1.out.below HB1.out).reads (cells_one _) (by simp only [maxLen]; omega) (by omega) (Nat.le_refl _) ?_
       intro v2 w2 hown2 hg2 hat2
       have hO2 : OwnB w2 w1.heap.size v2 (bs.take sk) := by unfold OwnB; rw [Y1.out.1]; simpa using hown2
       have HO2 := Lib.hid hO2
       have HB2 : Hid (Below w1.heap.size w1 w2) := (Below.refl _ _).grown hg2 (Nat.le_refl _) (fun k hk => by simp [Value.ownBlock] at hk)
       obtain ⟨A3, c3, hv2, _, _, _⟩ := hO2.form_ Y1.out.1
       subst hv2
       clear hown2 hg2 hat2 hO2))
  go_ret3
  exact ⟨w2.heap.size, rfl, ⟨_, _, _, jrn_new HO2.out HR1.out HB2.out hs1⟩, (HB1.out.trans (HB2.out.mono hs1)).alloc (Nat.le_trans hs1 HB2.out.size) _⟩

theorem tear_arg (w : World) (base g : Nat) (bs : List UInt8) (bss : List (List UInt8)) (h : Jrn w base g bs bss) (k : Int) (hk : k < 0 ∨ (bs.length : Int) < k) :
    Calls Try.prog 28 #[.pointer (some ⟨g, 0, none⟩), .int .i64 k] w fun e w' => e = .returned (.int .i64 2) ∧ w = w' := by
  obtain ⟨vb, vl, rows, h⟩ := h
  obtain ⟨a, cap, rfl, _, _, _⟩ := h.bytes.form
  have c0 := h.cell0
  clear h
  by_cases h0 : k < 0
  · go_enter Try.func28, Try.ntmps28
    go_wp2_with fail
    go_ret
    exact ⟨rfl, rfl⟩
  · have h1 : (bs.length : Int) < k := by omega
    clear hk
    go_enter Try.func28, Try.ntmps28
    go_wp2_with fail
    go_ret
    exact ⟨rfl, rfl⟩

theorem jrn_copy {w : World} {base base' g g' : Nat} {vb vl vb' vl' : Value} {rows rows' : List Value} {bs bs' : List UInt8} {bss bss' : List (List UInt8)} (h : JrnV w base g vb vl rows bs bss) (h' : JrnV w base' g' vb' vl' rows' bs' bss') (hb : base ≤ base') :
    JrnV ((w.setCell ⟨g, 0, none⟩ vb').setCell ⟨g, 1, none⟩ vl') base g vb' vl' rows' bs' bss' := by
  have hset : ∀ k, k ≠ g → ((w.setCell ⟨g, 0, none⟩ vb').setCell ⟨g, 1, none⟩ vl').heap[k]? = w.heap[k]? := fun k hk =>
    (Below.heap_setCell _ ⟨g, 1, none⟩ vl' k hk).trans (Below.heap_setCell _ ⟨g, 0, none⟩ vb' k hk)
  refine ⟨h.at_, (h.blk.set_ 0 vb').set_ 1 vl', (h'.bytes.base hb).keep fun k e => hset k (own_ne h'.bytes h.blk k e), rows_keep (h'.list.base hb) fun k e => hset k (row_ne h'.list h.blk k e), h'.len, fun i hi => ?_⟩
  obtain ⟨v, h1, h2, h3⟩ := h'.recs i hi
  exact ⟨v, h1, (h2.base hb).keep fun k e => hset k (own_ne h2 h.blk k e), h3⟩

theorem Byt.pre {w : World} {B n : Nat} {a : Option Addr} {bs : List UInt8} (h : Byt w B a n bs) (m : Nat) (hm : m ≤ n) : Byt w B a m (bs.take m) := by
  refine ⟨by rw [List.length_take, h.1]; omega, ?_⟩
  rcases Nat.eq_zero_or_pos m with h0 | h0
  · exact .inl h0
  · obtain ⟨b, off, e, hb, hc⟩ := h.at_ (i := 0) (by omega)
    refine .inr ⟨b, off, e, hb, fun i hi => ?_⟩
    rw [hc i (by omega)]
    congr 3
    rw [List.getD_eq_getElem?_getD, List.getD_eq_getElem?_getD, List.getElem?_take, if_pos hi]

theorem moved_two {w w1 : World} {g : Nat} (h : Below w.heap.size w w1) (u v : Value) : Moved w ((w1.setCell ⟨g, 0, none⟩ u).setCell ⟨g, 1, none⟩ v) (fun k => k = g) :=
  Moved.setCell (S := fun k => k = g) (p := ⟨g, 1, none⟩) (Moved.setCell (S := fun k => k = g) (p := ⟨g, 0, none⟩) (Moved.of_below h) (fun _ => rfl) _) (fun _ => rfl) _

def TearPost (w : World) (base g : Nat) (bs : List UInt8) (bss : List (List UInt8)) (e : Ending) (w' : World) : Prop :=
  e = .returned (.int .i64 0) ∧ Jrn w' base g bs bss ∧ Moved w w' (fun k => k = g)

set_option maxHeartbeats 2000000 in
theorem tear_calls (w : World) (base g : Nat) (bs : List UInt8) (bss : List (List UInt8)) (h : Jrn w base g bs bss) (k : Nat) (hk : k ≤ bs.length) (hn : bs.length ≤ 4194304) :
    Calls Try.prog 28 #[.pointer (some ⟨g, 0, none⟩), .int .i64 k] w (TearPost w base g ((bs.take (bs.length - k)).take (scanS (bs.take (bs.length - k))).2.1) (scanS (bs.take (bs.length - k))).1) := by
  obtain ⟨vb, vl, rows, h⟩ := h
  obtain ⟨a, cap, rfl, hc1, hc2, hB⟩ := h.bytes.form
  have c0 := h.cell0
  have HJ := Lib.hid h
  have hgs : g < w.heap.size := h.blk.lt
  obtain ⟨n, hnl⟩ : ∃ n, n = bs.length := ⟨_, rfl⟩
  rw [← hnl] at c0 hk hn hc1 hB HJ ⊢
  have Y1 := Lib.hid (hB.pre (n - k) (by omega))
  have hop : Hid (∀ W, Byt W W.heap.size a (n - k) (bs.take (n - k)) → Calls Try.prog 22 #[.slice a (n - k) cap] W (RetJ W (n - k) (scanS (bs.take (n - k))) (bs.take (n - k)))) := fun W h => open_calls W a (n - k) cap _ h (by omega) hc2 (by omega)
  obtain ⟨t, ht⟩ : ∃ t, t = bs.take (n - k) := ⟨_, rfl⟩
  rw [← ht] at Y1 hop ⊢
  obtain ⟨sl, sk, sx, hs⟩ : ∃ sl sk sx, scanS t = (sl, sk, sx) := ⟨_, _, _, rfl⟩
  rw [hs] at hop ⊢
  have hmI : IntKind.i64.wrap ((n : Int) - (k : Int)) = (n : Int) - (k : Int) := IntWalk.i64_in _ (by omega)
  clear h hB ht hs hnl
  go_enter Try.func28, Try.ntmps28
  go_wp2_with fail
  go_region_with (first
    | (go_at_call 22
       refine (hop.out _ (by exact Y1.out)).mono ?_
       rintro e w1 ⟨g1, rfl, ⟨vb1, vl1, rows1, hJ1⟩, hb1⟩
       obtain ⟨q, hq⟩ : ∃ q, (List.take sk t).length = q := ⟨_, rfl⟩
       obtain ⟨ab, cb, hvb, _, _, _⟩ := hJ1.bytes.form_ hq
       obtain ⟨al, cl, hvl, _, _, _⟩ := hJ1.ownR.form
       subst hvb hvl
       clear hq
       have HJ1 := Lib.hid hJ1
       have HB1 : Hid (Below w.heap.size w w1) := (Below.refl _ _).drew.trans hb1
       have hc1a := hJ1.cell0
       have hc1b := hJ1.cell1
       have HJw : Hid (JrnV w1 base g (Value.slice a n cap) vl rows bs bss) := HJ.out.keep fun k _ hk => HB1.out.block k hk
       have hd0 := HJw.out.cell0
       have hd1 := HJw.out.cell1
       have he0 := HJw.out.blk.frozen 0
       have he1 := HJw.out.blk.frozen 1
       have hf1 := (HJw.out.blk.set_ 0 (.slice ab q cb)).frozen 1
       have hf2 : (w1.setCell ⟨g, 0, none⟩ (.slice ab q cb)).cell? ⟨g, 1, none⟩ = some vl := (HJw.out.blk.set_ 0 (.slice ab q cb)).cell 1
       clear hJ1 hb1))
  all_goals go_wp2_with fail
  all_goals go_ret
  all_goals exact ⟨rfl, ⟨_, _, _, jrn_copy HJw.out HJ1.out (Nat.le_of_lt (Nat.lt_of_le_of_lt HJ.out.at_ hgs))⟩, moved_two HB1.out _ _⟩
end Go.Proofs.Ytnolmcdahpkcnaa
