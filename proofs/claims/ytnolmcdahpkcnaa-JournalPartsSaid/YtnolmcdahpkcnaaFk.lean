/- The contract of Add. -/
import Derived.Test.YtnolmcdahpkcnaaFj
import Derived.Deep.RegionLaw
import Derived.Deep.AppendLies
namespace Go.Proofs.Ytnolmcdahpkcnaa
open Go.RowKit
set_option linter.unusedVariables false

def framesL (lss : List (List UInt8)) : List UInt8 := (lss.map frame).flatten
theorem framesL_append (a b : List (List UInt8)) : framesL (a ++ b) = framesL a ++ framesL b := by simp [framesL]
theorem framesL_one (a : List UInt8) : framesL [a] = frame a := by simp [framesL]
theorem framesL_take {lss : List (List UInt8)} {k : Nat} (h : k < lss.length) : framesL (lss.take (k + 1)) = framesL (lss.take k) ++ frame (lss.getD k []) := by
  rw [take_all lss [] k h, framesL_append, framesL_one]
theorem framesL_le (lss : List (List UInt8)) (k : Nat) : (framesL (lss.take k)).length ≤ (framesL lss).length := by
  conv => rhs; rw [← List.take_append_drop k lss, framesL_append, List.length_append]
  omega
theorem framesL_len (lss : List (List UInt8)) : 8 * lss.length ≤ (framesL lss).length := by
  induction lss with
  | nil => simp
  | cons a l ih =>
    have : framesL (a :: l) = frame a ++ framesL l := by rw [show a :: l = [a] ++ l from rfl, framesL_append, framesL_one]
    rw [this, List.length_append, frame_len, List.length_cons]; omega

theorem add_nil (w : World) (v : Value) : Calls Try.prog 27 #[.pointer none, v] w fun e w' => e = .returned (.int .i64 1) ∧ w = w' := by
  go_enter Try.func27, Try.ntmps27
  go_wp2_with fail
  go_ret
  exact ⟨rfl, rfl⟩

/-- The blocks that Add may write: the journal's own, and those of its two rows. -/
def Wr (g : Nat) (vb vl : Value) (k : Nat) : Prop := k = g ∨ vb.ownBlock = some k ∨ vl.ownBlock = some k

section
variable {w w1 w2 : World} {S : Nat → Prop}
theorem Moved.grown {row : Option Nat} (h : Moved w w1 S) (hg : w1.grownBy w2 row) (hr : ∀ k, row = some k → k < w.heap.size → S k) : Moved w w2 S :=
  ⟨hg.os.trans h.os, hg.tape.trans h.tape, hg.output.trans h.output, Nat.le_trans h.size hg.size, fun i hi hn => (hg.block i (Nat.lt_of_lt_of_le hi h.size) (fun e => hn (hr i e.symm hi))).trans (h.block i hi hn)⟩
theorem Moved.alloc (h : Moved w w1 S) (o : Obj) : Moved w (w1.alloc o) S := h.grown (World.grownBy_alloc w1 o none) (fun k hk => by cases hk)
theorem Moved.drew (h : Moved w w1 S) : Moved w w1.drew S := ⟨h.os, h.tape, h.output, h.size, h.block⟩
theorem Moved.setCell (h : Moved w w1 S) {p : Addr} (hp : p.block < w.heap.size → S p.block) (v : Value) : Moved w (w1.setCell p v) S :=
  ⟨h.os, h.tape, h.output, by simp [World.setCell]; exact h.size, fun i hi hn => (Below.heap_setCell w1 p v i (fun e => hn (by subst e; exact hp hi))).trans (h.block i hi hn)⟩
end

theorem own_ne {w : World} {base g : Nat} {v : Value} {bs : List UInt8} {cs : Array Value} (h : OwnB w base v bs) (hg : Blk w g 60 cs) (k : Nat) (hk : v.ownBlock = some k) : k ≠ g := by
  intro e; subst e; exact own_blk_ne h hg (by decide) hk
theorem row_ne {w : World} {base g n : Nat} {v : Value} {rows : List Value} {cs : Array Value} (h : w.ownsRow base 22 1 v n rows) (hg : Blk w g 60 cs) (k : Nat) (hk : v.ownBlock = some k) : k ≠ g := by
  intro e; subst e; exact own_blk_ne h hg (by decide) hk

/-- Bytes are appended to a journal's bytes, and stored. -/
theorem JrnV.bytes_grow {w w3 : World} {base g : Nat} {vb v3 vl : Value} {rows : List Value} {bs bs' : List UInt8} {bss : List (List UInt8)} (h : JrnV w base g vb vl rows bs bss)
    (hown : OwnB w3 base v3 bs') (hg : w.grownBy w3 vb.ownBlock) (hat : v3.ownBlock = vb.ownBlock ∨ v3.ownBlock = some w.heap.size) : JrnV (w3.setCell ⟨g, 0, none⟩ v3) base g v3 vl rows bs' bss := by
  have hb3 : Blk w3 g 60 #[vb, vl] := h.blk.keep (hg.block g h.blk.lt (fun e => own_ne h.bytes h.blk g e.symm rfl))
  have hset : ∀ k, k ≠ g → (w3.setCell ⟨g, 0, none⟩ v3).heap[k]? = w3.heap[k]? := fun k hk => Below.heap_setCell w3 ⟨g, 0, none⟩ v3 k hk
  refine ⟨h.at_, ?_, hown.keep fun k e => hset k (own_ne hown hb3 k e), ?_, h.len, fun i hi => ?_⟩
  · have := hb3.set_ 0 v3
    exact this
  · refine rows_keep h.list fun k e => ?_
    rw [hset k (row_ne h.list h.blk k e), hg.block k (h.list.lt k e).2 (fun e2 => ne_block h.bytes h.list k e2.symm e)]
  · obtain ⟨v, h1, h2, h3⟩ := h.recs i hi
    refine ⟨v, h1, h2.keep fun k e => ?_, ?_⟩
    · rw [hset k (own_ne h2 h.blk k e), hg.block k (h2.lt k e).2 (fun e2 => by
        rcases h3 with h3 | h3
        · rw [h3] at e; cases e
        · exact h3 (e.trans e2))]
    · rcases h3 with h3 | h3
      · exact .inl h3
      · right
        rcases hat with e | e
        · rw [e]; exact h3
        · rw [e]; intro e2; have := (h2.lt _ e2).2; omega

/-- A record is appended to a journal's list, and stored. -/
theorem JrnV.list_grow {w w1 w3 : World} {base g : Nat} {vb v' vl u : Value} {rows : List Value} {bs b : List UInt8} {bss : List (List UInt8)} (h : JrnV w base g vb vl rows bs bss)
    (hb1 : Below w.heap.size w w1) (hu : OwnB w1 w.heap.size u b) (hown : w3.ownsRow base 22 1 v' (bss.length + 1) (rows ++ [u])) (hg : (w1.alloc (.cells #[u] 22)).grownBy w3 vl.ownBlock) :
    JrnV (w3.setCell ⟨g, 1, none⟩ v') base g vb v' (rows ++ [u]) bs (bss ++ [b]) := by
  have hsz := hb1.size
  have hbase : base ≤ w.heap.size := by have := h.at_; have := h.blk.lt; omega
  have hb2 : Below w.heap.size w (w1.alloc (.cells #[u] 22)) := hb1.alloc hsz _
  have h2 : JrnV (w1.alloc (.cells #[u] 22)) base g vb vl rows bs bss := h.keep fun k _ hk => hb2.block k hk
  have hu2 : OwnB (w1.alloc (.cells #[u] 22)) base u b := World.ownsRow.base (hu.below ((Below.refl _ _).alloc (Nat.le_refl _) _)) hbase
  have hr := OwnR.push h2.ownR hu2 hown hg
  have hbk : Blk w3 g 60 #[vb, vl] := h2.blk.keep (hg.block g h2.blk.lt (fun e => row_ne h2.list h2.blk g e.symm rfl))
  have hset : ∀ k, k ≠ g → (w3.setCell ⟨g, 1, none⟩ v').heap[k]? = w3.heap[k]? := fun k hk => Below.heap_setCell w3 ⟨g, 1, none⟩ v' k hk
  have hby : OwnB w3 base vb bs := h2.bytes.keep fun k e => hg.block k (h2.bytes.lt k e).2 (fun e2 => ne_block h2.bytes h2.list k e e2.symm)
  refine ⟨h.at_, hbk.set_ 1 v', hby.keep fun k e => hset k (own_ne hby hbk k e), rows_keep hr.list fun k e => hset k (row_ne hr.list hbk k e), hr.len, fun i hi => ?_⟩
  obtain ⟨x, h3, h4⟩ := hr.recs i hi
  refine ⟨x, h3, h4.keep fun k e => hset k (own_ne h4 hbk k e), ?_⟩
  by_cases e : i < bss.length
  · obtain ⟨y, h5, _, h7⟩ := h.recs i e
    rw [List.getElem?_append_left (by rw [h.len]; exact e), h5] at h3
    injection h3 with h3
    subst h3
    exact h7
  · have hi' : i = bss.length := by rw [List.length_append] at hi; simp at hi; omega
    subst hi'
    rw [List.getElem?_append_right (by rw [h.len]; exact Nat.le_refl _), h.len] at h3
    simp at h3
    subst h3
    cases hk : u.ownBlock with
    | none => exact .inl rfl
    | some k =>
      right
      intro e2
      have h5 := (h.bytes.lt k e2.symm).2
      have h6 := (hu.lt k hk).1
      omega

def AddPost (w : World) (base g : Nat) (vb vl : Value) (bs : List UInt8) (bss : List (List UInt8)) (e : Ending) (w' : World) : Prop :=
  ∃ vb' vl' rows', e = .returned (.int .i64 0) ∧ JrnV w' base g vb' vl' rows' bs bss ∧ Moved w w' (Wr g vb vl) ∧
    (∀ k, vb'.ownBlock = some k → vb.ownBlock = some k ∨ w.heap.size ≤ k) ∧ (∀ k, vl'.ownBlock = some k → vl.ownBlock = some k ∨ w.heap.size ≤ k)

theorem reads_new (w : World) (v : Value) : Reads (w.alloc (.cells #[v] 22)) (w.heap.size + 1) 1 (some ⟨w.heap.size, 0, none⟩) 1 [v] :=
  ⟨rfl, fun _ => ⟨_, rfl, by show w.heap.size < _; omega, cell_one_new _ _ _⟩⟩

set_option maxHeartbeats 1000000 in
theorem add_calls (w : World) (base g : Nat) (vb vl : Value) (rows : List Value) (bs : List UInt8) (bss : List (List UInt8)) (hj : JrnV w base g vb vl rows bs bss)
    (K : Nat → Prop) (hK : ∀ b, K b → b < w.heap.size ∧ ¬ Wr g vb vl b) (a : Option Addr) (n cap : Nat) (lss : List (List UInt8)) (hl : LsK w K a n lss)
    (hrec : ∀ i, i < lss.length → (lss.getD i []).length ≤ 65536) (hsum : bs.length + (framesL lss).length ≤ 4194304) (hbss : bss.length ≤ 1000000) :
    Calls Try.prog 27 #[.pointer (some ⟨g, 0, none⟩), .slice a n cap] w (AddPost w base g vb vl (bs ++ framesL lss) (bss ++ lss)) := by
  obtain ⟨i0, hi0, hz0, hz1, hz2⟩ := info_parts byte_info
  obtain ⟨i1, hi1, hy0, hy1, hy2⟩ := info_parts rows_info
  have HJ := Lib.hid hj
  have HL := Lib.hid hl
  have HK := Lib.hid hK
  have HREC := Lib.hid hrec
  have hnl : 8 * n ≤ (framesL lss).length := by rw [← hl.1]; exact framesL_len lss
  obtain ⟨tot, htot⟩ : ∃ t, t = (framesL lss).length := ⟨_, rfl⟩
  rw [← htot] at hsum hnl
  have HT := Lib.hid htot
  obtain ⟨a0, c0, hvb, hvb1, hvb2, _⟩ := hj.bytes.form
  obtain ⟨nb, hnb⟩ : ∃ t, t = bs.length := ⟨_, rfl⟩
  rw [← hnb] at hsum hvb hvb1
  have HNB := Lib.hid hnb
  subst hvb
  clear hj hl hK hrec htot hnb
  go_enter Try.func27, Try.ntmps27
  go_wp2_with fail
  go_loopw [5, 16] (fun u i wr => ∃ (k : Nat) (v : Value), k ≤ n ∧ i = .int .i64 k ∧ v = u ∧ OwnB wr w.heap.size v (framesL (lss.take k)) ∧ Below w.heap.size w wr) (fun _ i _ => n - (intOf i).toNat)
  case atStart => exact ⟨0, _, Nat.zero_le _, rfl, rfl, OwnB.nil _ _, Below.refl _ _⟩
  case round =>
    obtain ⟨k, v, hk, rfl, rfl, hown, hbl⟩ := hrel
    have HO := Lib.hid hown
    have HW := Lib.hid hbl
    have hsz := hbl.size
    clear hown hbl
    by_cases hlt : k < n
    · rcases HL.out.2 with h0 | ⟨b, off, rfl, hb, hc⟩
      · omega
      · obtain ⟨A, l, c, h1, h2, h3, h4⟩ := hc k hlt
        have hbK := (HK.out b hb).1
        have hcell : wr.cell? ⟨b, off + k, none⟩ = some (.slice A l c) := (HW.out.cell (p := ⟨b, off + k, none⟩) hbK).trans h1
        have H4 : Hid (Byt wr wr.heap.size A l (lss.getD k [])) := (((h4.byt (fun b hb => (HK.out b hb).1)).below HW.out).more hsz)
        have hll : l ≤ 65536 := by rw [← h4.1]; exact HREC.out k (by rw [HL.out.1]; exact hlt)
        have hft : (framesL (lss.take (k + 1))).length ≤ tot := by rw [HT.out]; exact framesL_le lss (k + 1)
        have HFT := Lib.hid (framesL_take (lss := lss) (k := k) (by rw [HL.out.1]; exact hlt))
        rw [HFT.out, List.length_append] at hft
        clear hc h1 h4
        go_wp2_with fail
        refine (frame_calls wr A l c (lss.getD k []) H4.out h2 h3 hll).mono ?_
        rintro e w1 ⟨v1, rfl, hO1, hb1⟩
        obtain ⟨A1, c1, rfl, hl1, hl1', hB1⟩ := hO1.form
        have HB1 := Lib.hid hB1
        have HO1 := Lib.hid (HO.out.below hb1)
        have HW1 := Lib.hid (HW.out.trans (hb1.mono hsz))
        have hs1 := hb1.size
        clear hO1 hB1 hb1
        go_wp2_with (first
          | (at_builtin
             refine wpList_append_any _ rfl (.tmp 28) (.tmp 29) _ rfl w.heap.size 5 i0 _ 1 1 Try.underlying22 hi0 hz0 hz1 hz2 rfl (by omega) v (framesL (lss.take k)).length (cells (framesL (lss.take k))) rfl
               HO1.out w1.heap.size A1 (frame (lss.getD k [])).length c1 (cells (frame (lss.getD k []))) rfl HB1.out.reads (cells_one _) (by simp only [maxLen]; omega) (by omega) (by omega) ?_
             intro v2 w2 hown2 hg2 hat2))
        go_roundw
        case rel =>
          refine ⟨k + 1, _, by omega, by go_num, rfl, ?_, HW1.out.grown hg2 (by omega) (fun k hk => (HO1.out.lt k hk).1)⟩
          unfold OwnB
          rw [HFT.out, List.length_append, cells_append]
          exact hown2
        case measure => simp [intOf]; omega
    · obtain rfl : k = n := by omega
      have hO : OwnB wr w.heap.size v (framesL lss) := by
        have := HO.out
        rwa [List.take_of_length_le (by rw [HL.out.1]; exact Nat.le_refl _)] at this
      obtain ⟨A2, c2, hv2, hl2, hl2', hB2⟩ := hO.form_ HT.out.symm
      subst hv2
      have HB2 := Lib.hid hB2
      have hj1 : JrnV wr base g (.slice a0 nb c0) vl rows bs bss := HJ.out.keep fun k _ hk => HW.out.block k hk
      have hg0 := hj1.cell0
      have hgf := hj1.blk.frozen 0
      have hglt := hj1.blk.lt
      have HJ1 := Lib.hid hj1
      clear hO hB2 hj1
      go_wp2_with (first
        | (at_builtin
           refine wpList_append_any _ rfl (.tmp 45) (.tmp 46) _ rfl base 5 i0 _ 1 1 Try.underlying22 hi0 hz0 hz1 hz2 rfl (by omega) (.slice a0 nb c0) nb (cells bs) rfl
             (by have := HJ1.out.bytes; unfold OwnB at this; rw [← HNB.out] at this; exact this) wr.heap.size A2 tot c2 (cells (framesL lss)) rfl HB2.out.reads (cells_one _) (by simp only [maxLen]; omega) (by omega) (by have := HJ1.out.at_; omega) ?_
           intro v3 w3 hown3 hg3 hat3
           have hg3c : w3.cell? ⟨g, 0, none⟩ = some (.slice a0 nb c0) := hg3.cell hg0 (fun e => own_ne HJ1.out.bytes HJ1.out.blk g e.symm rfl)
           have hg3f : w3.frozen? ⟨g, 0, none⟩ = false := (World.frozen?_of_block (w := wr) (hg3.block g hglt (fun e => own_ne HJ1.out.bytes HJ1.out.blk g e.symm rfl))).trans hgf
           have hO3 : OwnB w3 base v3 (bs ++ framesL lss) := by
             unfold OwnB
             rw [List.length_append, ← HNB.out, ← HT.out, cells_append]; exact hown3
           obtain ⟨A3, c3, hv3, hl3, hl3', _⟩ := hO3.form_ (n := nb + tot) (by rw [List.length_append, ← HNB.out, ← HT.out])
           subst hv3
           have HJ3 := Lib.hid (HJ1.out.bytes_grow hO3 hg3 hat3)
           have HM3 : Hid (Moved w w3 (Wr g (.slice a0 nb c0) vl)) := (Moved.of_below HW.out).grown hg3 (fun k hk _ => .inr (.inl hk))
           have HAT : Hid (∀ q, Value.ownBlock (.slice A3 (nb + tot) c3) = some q → Value.ownBlock (.slice a0 nb c0) = some q ∨ w.heap.size ≤ q) := fun q hq => by
             rcases hat3 with e | e
             · left; rw [← e]; exact hq
             · right; rw [e] at hq; injection hq with hq; omega
           clear hown3 hg3 hat3 hO3))
      go_loopw [52] (fun i w2 => ∃ (j : Nat) (vl2 : Value) (rows2 : List Value), j ≤ k ∧ i = .int .i64 j ∧ JrnV w2 base g (Value.slice A3 (nb + tot) c3) vl2 rows2 (bs ++ framesL lss) (bss ++ lss.take j) ∧ Moved w w2 (Wr g (.slice a0 nb c0) vl) ∧ (∀ q, vl2.ownBlock = some q → vl.ownBlock = some q ∨ w.heap.size ≤ q)) (fun i _ => k - (intOf i).toNat)
      case atStart => exact ⟨0, vl, rows, Nat.zero_le _, rfl, by rw [List.take_zero, List.append_nil]; exact HJ3.out, HM3.out.setCell (fun _ => .inl rfl) _, fun q hq => .inl hq⟩
      case round =>
        obtain ⟨j, vl2, rows2, hj, rfl, hJ, hM, hAT2⟩ := hrel
        obtain ⟨w2, hw2⟩ : ∃ w2, w2 = wr := ⟨_, rfl⟩
        subst hw2
        have HJ2 := Lib.hid hJ
        have HM2 := Lib.hid hM
        have HA2 := Lib.hid hAT2
        have hg1 := hJ.cell1
        have hg1f := hJ.blk.frozen 1
        have hgl := hJ.blk.lt
        obtain ⟨B2, d2, hvl, hd1, hd2, _⟩ := hJ.ownR.form
        obtain ⟨q, hq⟩ : ∃ q, q = (bss ++ lss.take j).length := ⟨_, rfl⟩
        have hlen2 : q ≤ 2000000 := by rw [hq, List.length_append, List.length_take]; omega
        rw [← hq] at hvl hd1
        subst hvl
        have HLI : Hid (w2.ownsRow base 22 1 (.slice B2 q d2) q rows2) := by have := hJ.list; rwa [← hq] at this
        have hbg := hJ.at_
        have HQ := Lib.hid hq
        clear hq
        clear hJ hM hAT2
        by_cases hlt2 : j < k
        · rcases HL.out.2 with h0 | ⟨b, off, rfl, hb, hc⟩
          · omega
          · obtain ⟨A, l, c, h1, h2, h3, h4⟩ := hc j hlt2
            have hbK := HK.out b hb
            have hkeep : ∀ b, K b → w2.heap[b]? = w.heap[b]? := fun b hb => HM2.out.block b (HK.out b hb).1 (HK.out b hb).2
            have hcell : w2.cell? ⟨b, off + j, none⟩ = some (.slice A l c) := (World.cell?_of_block (w := w) (a := ⟨b, off + j, none⟩) (hkeep b hb)).trans h1
            have H4 : Hid (Byt w2 w2.heap.size A l (lss.getD j [])) := ((h4.keep hkeep).byt (fun b hb => (HK.out b hb).1)).more HM2.out.size
            have hll : l ≤ 65536 := by rw [← h4.1]; exact HREC.out j (by rw [HL.out.1]; exact hlt2)
            have HLN : Hid ((lss.getD j []).length = l) := h4.1
            clear hc h1 h4 hkeep
            go_wp2_with fail
            go_region_law (first
              | (refine step_append_any _ rfl (.const (.slice none 0 0)) (.tmp 61) _ rfl w2.heap.size 5 i0 _ 1 1 Try.underlying22 hi0 hz0 hz1 hz2 rfl (by omega) (.slice none 0 0) 0 [] rfl
                   (World.ownsRow_nil _ _ _ _) w2.heap.size A l c (cells (lss.getD j [])) rfl H4.out.reads (cells_one _) (by simp only [maxLen]; omega) (by omega) (Nat.le_refl _) ?_
                 intro v4 w4 hown4 hg4 hat4
                 have hb4 : Below w2.heap.size w2 w4 := (Below.refl w2.heap.size w2).drew.grown hg4 (Nat.le_refl _) (fun k hk => by simp [Value.ownBlock] at hk)
                 have hO4 : OwnB w4 w2.heap.size v4 (lss.getD j []) := by unfold OwnB; rw [HLN.out]; simpa using hown4
                 obtain ⟨A4, c4, hv4, hl4, hl4', _⟩ := hO4.form_ HLN.out
                 subst hv4
                 have HO4 := Lib.hid hO4
                 have HB4 := Lib.hid hb4
                 have hs4 := hb4.size
                 have hc4 : w4.cell? ⟨g, 1, none⟩ = some (.slice B2 q d2) := (hb4.cell (p := ⟨g, 1, none⟩) hgl).trans hg1
                 have hf4 : w4.frozen? ⟨g, 1, none⟩ = false := (hb4.frozen (p := ⟨g, 1, none⟩) hgl).trans hg1f
                 have hgl4 : g < w4.heap.size := by omega
                 clear hown4 hg4 hat4 hb4 hO4)
              | (refine step_append_any _ rfl (.tmp 60) (.tmp 63) _ rfl base 22 i1 _ 1 24 Try.underlying34 hi1 hy0 hy1 hy2 rfl (by omega) (.slice B2 q d2) q rows2 rfl
                   (rows_keep HLI.out fun k e => (((Below.refl w2.heap.size w2).trans HB4.out).alloc hs4 _).block k (HJ2.out.list.lt k e).2) (w4.heap.size + 1) (some ⟨w4.heap.size, 0, none⟩) 1 1 [.slice A4 l c4] rfl (reads_new _ _) (by intro u hu; simp at hu; subst hu; rfl) (by simp only [maxLen]; omega) (by omega) (by simp; omega) ?_
                 intro v5 w5 hown5 hg5 hat5
                 obtain ⟨g5, cap5, hv5, _, _⟩ := hown5.form (by omega)
                 subst hv5
                 have HX5 := Lib.hid (HJ2.out.list_grow HB4.out HO4.out (by rw [← HQ.out]; exact hown5) hg5)
                 have hgne : some g ≠ Value.ownBlock (.slice B2 q d2) := fun e => row_ne HJ2.out.list HJ2.out.blk g e.symm rfl
                 have hg4l : g < w4.heap.size := by omega
                 have hc5 : w5.cell? ⟨g, 1, none⟩ = some (.slice B2 q d2) := hg5.cell ((World.cell?_alloc_lt w4 _ ⟨g, 1, none⟩ hg4l).trans hc4) hgne
                 have hf5 : w5.frozen? ⟨g, 1, none⟩ = false := (World.frozen?_of_block (w := w4) (a := ⟨g, 1, none⟩) ((hg5.block g (by simp; omega) hgne).trans (Below.heap_alloc w4 _ g hg4l))).trans hf4
                 have HM5 : Hid (Moved w w5 (Wr g (.slice a0 nb c0) vl)) := ((HM2.out.trans (Moved.of_below HB4.out) (fun i _ h => h)).alloc _).grown hg5 (fun k hk hkl => by
                   rcases HA2.out k hk with e | e
                   · exact .inr (.inr e)
                   · omega)
                 have HA5 : Hid (∀ k, Value.ownBlock (.slice (some ⟨g5, 0, none⟩) (q + 1) cap5) = some k → vl.ownBlock = some k ∨ w.heap.size ≤ k) := fun k hk => by
                   rcases hat5 with e | e
                   · rw [e] at hk; exact HA2.out k hk
                   · rw [e] at hk; injection hk with hk; right
                     have := HM2.out.size
                     rw [size_alloc] at hk
                     omega
                 clear hown5 hg5 hat5))
            all_goals
              go_wp2_with fail
              go_roundw
              case rel =>
                refine ⟨j + 1, _, rows2 ++ [.slice A4 l c4], by omega, by go_num, ?_, HM5.out.setCell (fun _ => .inl rfl) _, HA5.out⟩
                rw [take_all lss [] j (by rw [HL.out.1]; exact hlt2), ← List.append_assoc]
                exact HX5.out
              case measure => simp [intOf]; omega
        · obtain rfl : j = k := by omega
          go_wp2_with fail
          go_ret
          have hJ := HJ2.out
          rw [List.take_of_length_le (by rw [HL.out.1]; exact Nat.le_refl _)] at hJ
          exact ⟨_, _, _, rfl, hJ, HM2.out, HAT.out, HA2.out⟩
end Go.Proofs.Ytnolmcdahpkcnaa
