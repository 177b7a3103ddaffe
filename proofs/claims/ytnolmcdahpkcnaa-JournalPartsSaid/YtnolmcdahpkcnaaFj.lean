/- What the walks say of a journal in memory; contracts of New, Len, Bytes. -/
import Derived.Test.YtnolmcdahpkcnaaFe
namespace Go.Proofs.Ytnolmcdahpkcnaa
open Go.RowKit
set_option linter.unusedVariables false

/-- As Byt and Lst, their blocks any that K names. -/
def ByK (w : World) (K : Nat → Prop) (a : Option Addr) (n : Nat) (bs : List UInt8) : Prop :=
  bs.length = n ∧ (n = 0 ∨ ∃ b off, a = some ⟨b, off, none⟩ ∧ K b ∧ ∀ i, i < n → w.cell? ⟨b, off + i, none⟩ = some (.int .u8 (bs.getD i 0).toNat))
def LsK (w : World) (K : Nat → Prop) (a : Option Addr) (n : Nat) (bss : List (List UInt8)) : Prop :=
  bss.length = n ∧ (n = 0 ∨ ∃ b off, a = some ⟨b, off, none⟩ ∧ K b ∧ ∀ i, i < n → ∃ A l c, w.cell? ⟨b, off + i, none⟩ = some (.slice A l c) ∧ l ≤ c ∧ c ≤ 9223372036854775807 ∧ ByK w K A l (bss.getD i []))

section
variable {w w' : World} {B n : Nat} {K : Nat → Prop} {a : Option Addr} {bs : List UInt8} {bss : List (List UInt8)}
theorem ByK.byt (h : ByK w K a n bs) (hK : ∀ b, K b → b < B) : Byt w B a n bs := by
  refine ⟨h.1, ?_⟩
  rcases h.2 with h0 | ⟨b, off, rfl, hb, hc⟩
  · exact .inl h0
  · exact .inr ⟨b, off, rfl, hK b hb, hc⟩
theorem ByK.keep (h : ByK w K a n bs) (hk : ∀ b, K b → w'.heap[b]? = w.heap[b]?) : ByK w' K a n bs := by
  refine ⟨h.1, ?_⟩
  rcases h.2 with h0 | ⟨b, off, rfl, hb, hc⟩
  · exact .inl h0
  · exact .inr ⟨b, off, rfl, hb, fun i hi => (World.cell?_of_block (w := w) (a := ⟨b, off + i, none⟩) (hk b hb)).trans (hc i hi)⟩
theorem LsK.keep (h : LsK w K a n bss) (hk : ∀ b, K b → w'.heap[b]? = w.heap[b]?) : LsK w' K a n bss := by
  refine ⟨h.1, ?_⟩
  rcases h.2 with h0 | ⟨b, off, rfl, hb, hc⟩
  · exact .inl h0
  · refine .inr ⟨b, off, rfl, hb, fun i hi => ?_⟩
    obtain ⟨A, l, c, h1, h2, h3, h4⟩ := hc i hi
    exact ⟨A, l, c, (World.cell?_of_block (w := w) (a := ⟨b, off + i, none⟩) (hk b hb)).trans h1, h2, h3, h4.keep hk⟩
theorem LsK.lst (h : LsK w K a n bss) (hK : ∀ b, K b → b < B) : Lst w B a n bss := by
  refine ⟨h.1, ?_⟩
  rcases h.2 with h0 | ⟨b, off, rfl, hb, hc⟩
  · exact .inl h0
  · refine .inr ⟨b, off, rfl, hK b hb, fun i hi => ?_⟩
    obtain ⟨A, l, c, h1, h2, h3, h4⟩ := hc i hi
    exact ⟨A, l, c, h1, h2, h3, h4.byt hK⟩
theorem Lst.lsk (h : Lst w B a n bss) : LsK w (· < B) a n bss := h
end

/-- Only blocks that S names may have been written. -/
structure Moved (w w' : World) (S : Nat → Prop) : Prop where
  os : w'.os = w.os
  tape : w'.tape = w.tape
  output : w'.output = w.output
  size : w.heap.size ≤ w'.heap.size
  block : ∀ k, k < w.heap.size → ¬ S k → w'.heap[k]? = w.heap[k]?
theorem Moved.below {w w' : World} {S : Nat → Prop} {B : Nat} (h : Moved w w' S) (hS : ∀ k, S k → B ≤ k) (hB : B ≤ w.heap.size) : Below B w w' :=
  ⟨h.os, h.tape, h.output, h.size, fun k hk => h.block k (by omega) (fun hs => by have := hS k hs; omega)⟩
theorem Moved.trans {a b c : World} {S S' : Nat → Prop} (h : Moved a b S) (k : Moved b c S') (hS : ∀ i, i < a.heap.size → S' i → S i) : Moved a c S :=
  ⟨k.os.trans h.os, k.tape.trans h.tape, k.output.trans h.output, Nat.le_trans h.size k.size, fun i hi hn => (k.block i (Nat.lt_of_lt_of_le hi h.size) (fun e => hn (hS i hi e))).trans (h.block i hi hn)⟩
theorem Moved.of_below {w w' : World} {S : Nat → Prop} (h : Below w.heap.size w w') : Moved w w' S := ⟨h.os, h.tape, h.output, h.size, fun k hk _ => h.block k hk⟩
theorem Moved.refl (w : World) (S : Nat → Prop) : Moved w w S := ⟨rfl, rfl, rfl, Nat.le_refl _, fun _ _ _ => rfl⟩

/-- A journal: its block g holds the slices vb (bytes bs) and vl (rows, each a row of the call's own that holds a record). -/
structure JrnV (w : World) (base g : Nat) (vb vl : Value) (rows : List Value) (bs : List UInt8) (bss : List (List UInt8)) : Prop where
  at_ : base ≤ g
  blk : Blk w g 60 #[vb, vl]
  bytes : OwnB w base vb bs
  list : w.ownsRow base 22 1 vl bss.length rows
  len : rows.length = bss.length
  recs : ∀ i, i < bss.length → ∃ v, rows[i]? = some v ∧ OwnB w base v (bss.getD i []) ∧ (v.ownBlock = none ∨ v.ownBlock ≠ vb.ownBlock)
def Jrn (w : World) (base g : Nat) (bs : List UInt8) (bss : List (List UInt8)) : Prop := ∃ vb vl rows, JrnV w base g vb vl rows bs bss

theorem OwnB.keep {w w' : World} {base : Nat} {v : Value} {bs : List UInt8} (h : OwnB w base v bs) (hk : ∀ k, v.ownBlock = some k → w'.heap[k]? = w.heap[k]?) : OwnB w' base v bs := by
  refine ⟨h.1, ?_⟩
  rcases h.2 with h0 | ⟨g, cap, cur, rfl, hbg, hg, hr⟩
  · exact .inl h0
  · exact .inr ⟨g, cap, cur, rfl, hbg, by rw [hk g rfl]; exact hg, hr⟩
theorem rows_keep {w w' : World} {base n : Nat} {v : Value} {xs : List Value} {e : TypeId} {size : Nat} (h : w.ownsRow base e size v n xs) (hk : ∀ k, v.ownBlock = some k → w'.heap[k]? = w.heap[k]?) : w'.ownsRow base e size v n xs := by
  refine ⟨h.1, ?_⟩
  rcases h.2 with h0 | ⟨g, cap, cur, rfl, hbg, hg, hr⟩
  · exact .inl h0
  · exact .inr ⟨g, cap, cur, rfl, hbg, by rw [hk g rfl]; exact hg, hr⟩
theorem Blk.keep {w w' : World} {g : Nat} {t : TypeId} {cs : Array Value} (h : Blk w g t cs) (hk : w'.heap[g]? = w.heap[g]?) : Blk w' g t cs := by unfold Blk at *; rw [hk]; exact h

theorem JrnV.keep {w w' : World} {base g : Nat} {vb vl : Value} {rows : List Value} {bs : List UInt8} {bss : List (List UInt8)} (h : JrnV w base g vb vl rows bs bss)
    (hk : ∀ k, base ≤ k → k < w.heap.size → w'.heap[k]? = w.heap[k]?) : JrnV w' base g vb vl rows bs bss where
  at_ := h.at_
  blk := h.blk.keep (hk g h.at_ h.blk.lt)
  bytes := h.bytes.keep fun k e => hk k (h.bytes.lt k e).1 (h.bytes.lt k e).2
  list := rows_keep h.list fun k e => hk k (h.list.lt k e).1 (h.list.lt k e).2
  len := h.len
  recs := fun i hi => by
    obtain ⟨v, h1, h2, h3⟩ := h.recs i hi
    exact ⟨v, h1, h2.keep fun k e => hk k (h2.lt k e).1 (h2.lt k e).2, h3⟩
theorem Jrn.below {w w' : World} {base g : Nat} {bs : List UInt8} {bss : List (List UInt8)} (h : Jrn w base g bs bss) (hb : Below w.heap.size w w') : Jrn w' base g bs bss := by
  obtain ⟨vb, vl, rows, h⟩ := h
  exact ⟨vb, vl, rows, h.keep fun k _ hk => hb.block k hk⟩

/-- A row of the call's own whose elements are rows of the call's own: the lists of bytes bss. -/
structure OwnR (w : World) (base : Nat) (v : Value) (rows : List Value) (bss : List (List UInt8)) : Prop where
  list : w.ownsRow base 22 1 v bss.length rows
  recs : ∀ i, i < bss.length → ∃ u, rows[i]? = some u ∧ OwnB w base u (bss.getD i [])
def OwnL (w : World) (base : Nat) (v : Value) (bss : List (List UInt8)) : Prop := ∃ rows, OwnR w base v rows bss
theorem OwnR.len {w : World} {base : Nat} {v : Value} {rows : List Value} {bss : List (List UInt8)} (h : OwnR w base v rows bss) : rows.length = bss.length := by have := h.list.1; omega
theorem OwnR.nil (w : World) (base : Nat) : OwnR w base (.slice none 0 0) [] [] := ⟨World.ownsRow_nil _ _ _ _, fun i hi => by simp at hi⟩

theorem OwnR.form {w : World} {base : Nat} {v : Value} {rows : List Value} {bss : List (List UInt8)} (h : OwnR w base v rows bss) :
    ∃ a cap, v = .slice a bss.length cap ∧ bss.length ≤ cap ∧ cap ≤ 9223372036854775807 ∧ Lst w w.heap.size a bss.length bss := by
  rcases h.list.2 with ⟨rfl, h0⟩ | ⟨g, cap, cur, rfl, hb, hg, hn, hm, hr⟩
  · exact ⟨none, 0, by rw [h0], by omega, by omega, rfl, .inl h0⟩
  · refine ⟨_, cap, rfl, hn, by unfold maxLen at hm; omega, rfl, ?_⟩
    rcases Nat.eq_zero_or_pos bss.length with h0 | h0
    · exact .inl h0
    · refine .inr ⟨g, 0, rfl, (Array.getElem?_eq_some_iff.1 hg).1, fun i hi => ?_⟩
      obtain ⟨u, hu, ho⟩ := h.recs i hi
      obtain ⟨A, c, rfl, h1, h2, h3⟩ := ho.form
      have := World.ownsRow.cells (h.list) (g := g) rfl i _ hu
      rw [add_plain] at this
      exact ⟨A, _, c, this, h1, h2, h3⟩
theorem ne_block {w : World} {base base' : Nat} {u v : Value} {bs : List UInt8} {n : Nat} {xs : List Value} (h : OwnB w base u bs) (hv : w.ownsRow base' 22 1 v n xs) (k : Nat) (hk : u.ownBlock = some k) : v.ownBlock ≠ some k := by
  intro e
  rcases h.2 with ⟨rfl, _⟩ | ⟨g, cap, cur, rfl, _, hg, _⟩
  · cases hk
  · rcases hv.2 with ⟨rfl, _⟩ | ⟨g', cap', cur', rfl, _, hg', _⟩
    · cases e
    · simp only [Value.ownBlock, Option.some.injEq] at hk e
      subst hk
      rw [e, hg] at hg'
      simp at hg'
theorem OwnR.push {w w' : World} {base : Nat} {v v' u : Value} {rows : List Value} {bss : List (List UInt8)} {b : List UInt8} (h : OwnR w base v rows bss) (hu : OwnB w base u b)
    (hown : w'.ownsRow base 22 1 v' (bss.length + 1) (rows ++ [u])) (hg : w.grownBy w' v.ownBlock) : OwnR w' base v' (rows ++ [u]) (bss ++ [b]) := by
  refine ⟨by rw [List.length_append]; exact hown, fun i hi => ?_⟩
  have kept : ∀ {x : Value} {c : List UInt8}, OwnB w base x c → OwnB w' base x c := fun {x c} hx => hx.keep fun k hk =>
    hg.block k (hx.lt k hk).2 (fun e => ne_block hx h.list k hk e.symm)
  by_cases e : i < bss.length
  · obtain ⟨x, h1, h2⟩ := h.recs i e
    refine ⟨x, by rw [List.getElem?_append_left (by rw [h.len]; exact e)]; exact h1, ?_⟩
    have : (bss ++ [b]).getD i [] = bss.getD i [] := by rw [List.getD_eq_getElem?_getD, List.getD_eq_getElem?_getD, List.getElem?_append_left e]
    rw [this]; exact kept h2
  · have hi' : i = bss.length := by rw [List.length_append] at hi; simp at hi; omega
    subst hi'
    refine ⟨u, by rw [List.getElem?_append_right (by rw [h.len]; exact Nat.le_refl _), h.len]; simp, ?_⟩
    have : (bss ++ [b]).getD bss.length [] = b := by rw [List.getD_eq_getElem?_getD, List.getElem?_append_right (Nat.le_refl _)]; simp
    rw [this]; exact kept hu
theorem OwnR.keep {w w' : World} {base : Nat} {v : Value} {rows : List Value} {bss : List (List UInt8)} (h : OwnR w base v rows bss) (hk : ∀ k, base ≤ k → k < w.heap.size → w'.heap[k]? = w.heap[k]?) : OwnR w' base v rows bss :=
  ⟨rows_keep h.list fun k e => hk k (h.list.lt k e).1 (h.list.lt k e).2, fun i hi => by
    obtain ⟨u, h1, h2⟩ := h.recs i hi
    exact ⟨u, h1, h2.keep fun k e => hk k (h2.lt k e).1 (h2.lt k e).2⟩⟩
theorem OwnR.below {w w' : World} {base : Nat} {v : Value} {rows : List Value} {bss : List (List UInt8)} (h : OwnR w base v rows bss) (hb : Below w.heap.size w w') : OwnR w' base v rows bss := h.keep fun k _ hk => hb.block k hk
theorem OwnR.base {w : World} {base base' : Nat} {v : Value} {rows : List Value} {bss : List (List UInt8)} (h : OwnR w base v rows bss) (hb : base' ≤ base) : OwnR w base' v rows bss :=
  ⟨h.list.base hb, fun i hi => by
    obtain ⟨u, h1, h2⟩ := h.recs i hi
    exact ⟨u, h1, World.ownsRow.base h2 hb⟩⟩
theorem JrnV.ownR {w : World} {base g : Nat} {vb vl : Value} {rows : List Value} {bs : List UInt8} {bss : List (List UInt8)} (h : JrnV w base g vb vl rows bs bss) : OwnR w base vl rows bss :=
  ⟨h.list, fun i hi => by
    obtain ⟨v, h1, h2, _⟩ := h.recs i hi
    exact ⟨v, h1, h2⟩⟩
theorem JrnV.cell0 {w : World} {base g : Nat} {vb vl : Value} {rows : List Value} {bs : List UInt8} {bss : List (List UInt8)} (h : JrnV w base g vb vl rows bs bss) : w.cell? ⟨g, 0, none⟩ = some vb := h.blk.cell 0
theorem JrnV.cell1 {w : World} {base g : Nat} {vb vl : Value} {rows : List Value} {bs : List UInt8} {bss : List (List UInt8)} (h : JrnV w base g vb vl rows bs bss) : w.cell? ⟨g, 1, none⟩ = some vl := h.blk.cell 1

def RetL (w : World) (bss : List (List UInt8)) (e : Ending) (w' : World) : Prop := ∃ v rows, e = .returned v ∧ OwnR w' w.heap.size v rows bss ∧ Below w.heap.size w w'

theorem new_calls (w : World) : Calls Try.prog 26 #[] w fun e w' => e = .returned (.pointer (some ⟨w.heap.size, 0, none⟩)) ∧ w.alloc (.cells #[.slice none 0 0, .slice none 0 0] 60) = w' := by
  go_enter Try.func26, Try.ntmps26
  go_wp2_with fail
  go_ret
  exact ⟨rfl, rfl⟩
theorem new_jrn (w : World) : JrnV (w.alloc (.cells #[.slice none 0 0, .slice none 0 0] 60)) w.heap.size w.heap.size (.slice none 0 0) (.slice none 0 0) [] [] [] where
  at_ := Nat.le_refl _
  blk := Blk.new _ _ _
  bytes := OwnB.nil _ _
  list := World.ownsRow_nil _ _ _ _
  len := rfl
  recs := fun i hi => by simp at hi

set_option maxHeartbeats 400000 in
theorem len_calls (w : World) (base g : Nat) (bs : List UInt8) (bss : List (List UInt8)) (h : Jrn w base g bs bss) :
    Calls Try.prog 24 #[.pointer (some ⟨g, 0, none⟩)] w fun e w' => e = .returned (.int .i64 bss.length) ∧ w = w' := by
  obtain ⟨vb, vl, rows, h⟩ := h
  obtain ⟨a, cap, rfl, _, _, _⟩ := h.ownR.form
  have c1 := h.cell1
  clear h
  go_enter Try.func24, Try.ntmps24
  go_wp2_with fail
  go_ret
  exact ⟨rfl, rfl⟩

set_option maxHeartbeats 400000 in
theorem bytes_calls (w : World) (base g : Nat) (bs : List UInt8) (bss : List (List UInt8)) (h : Jrn w base g bs bss) (hn : bs.length ≤ 100000000) :
    Calls Try.prog 25 #[.pointer (some ⟨g, 0, none⟩)] w (RetB w bs) := by
  obtain ⟨vb, vl, rows, h⟩ := h
  obtain ⟨a, cap, rfl, _, _, hB⟩ := h.bytes.form
  have c0 := h.cell0
  have HB := Lib.hid hB
  obtain ⟨i0, hi0, hz0, hz1, hz2⟩ := info_parts byte_info
  clear h hB
  go_enter Try.func25, Try.ntmps25
  go_wp2_with (first
    | (at_builtin
       refine wpList_append_any _ rfl (.const (.slice none 0 0)) (.tmp 8) _ rfl w.heap.size 5 i0 _ 1 1 Try.underlying22 hi0 hz0 hz1 hz2 rfl (by omega) (.slice none 0 0) 0 [] rfl
         (World.ownsRow_nil _ _ _ _) w.heap.size a bs.length cap (cells bs) rfl HB.out.reads (cells_one _) (by simp only [maxLen]; omega) (by omega) (Nat.le_refl _) ?_
       intro v1 w1 hown1 hg1 hat1))
  go_ret
  refine ⟨v1, rfl, ?_, (Below.refl _ _).grown hg1 (Nat.le_refl _) (fun k hk => by simp [Value.ownBlock] at hk)⟩
  unfold OwnB
  simpa using hown1

theorem take_all {α : Type} (l : List α) (d : α) (k : Nat) (h : k < l.length) : l.take (k + 1) = l.take k ++ [l.getD k d] := by
  rw [List.take_succ_eq_append_getElem h, getD_eq h]

set_option maxHeartbeats 1000000 in
theorem records_calls (w : World) (base g : Nat) (bs : List UInt8) (bss : List (List UInt8)) (h : Jrn w base g bs bss) (hn : bss.length ≤ 1000000) (hl : ∀ i, i < bss.length → (bss.getD i []).length ≤ 100000000) :
    Calls Try.prog 23 #[.pointer (some ⟨g, 0, none⟩)] w (RetL w bss) := by
  obtain ⟨vb, vl, rows, h⟩ := h
  obtain ⟨a, cap, rfl, _, _, hL⟩ := h.ownR.form
  have c1 := h.cell1
  have HL := Lib.hid hL
  obtain ⟨i0, hi0, hz0, hz1, hz2⟩ := info_parts byte_info
  obtain ⟨i1, hi1, hy0, hy1, hy2⟩ := info_parts rows_info
  have HH := Lib.hid hl
  clear h hL hl
  obtain ⟨n, hN⟩ : ∃ n, n = bss.length := ⟨_, rfl⟩
  rw [← hN] at hn c1 HL HH
  have HN := Lib.hid hN
  clear hN
  go_enter Try.func23, Try.ntmps23
  go_wp2_with fail
  go_loopw [3, 13] (fun u i wr => ∃ (k : Nat) (rs : List Value) (v : Value), k ≤ n ∧ i = .int .i64 k ∧ v = u ∧ OwnR wr w.heap.size v rs (bss.take k) ∧ Below w.heap.size w wr) (fun _ i _ => n - (intOf i).toNat)
  case atStart => exact ⟨0, [], _, Nat.zero_le _, rfl, rfl, by rw [List.take_zero]; exact OwnR.nil _ _, Below.refl _ _⟩
  case round =>
    obtain ⟨k, rs, v, hk, rfl, rfl, hown, hbl⟩ := hrel
    have HO := Lib.hid hown
    have HW := Lib.hid hbl
    have hsz := hbl.size
    clear hown hbl
    by_cases hlt : k < n
    · have hkk := HL.out.2
      rcases hkk with h0 | ⟨b, off, rfl, hb, hc⟩
      · omega
      · obtain ⟨A, l, c, h1, h2, h3, h4⟩ := hc k hlt
        have hcell : wr.cell? ⟨b, off + k, none⟩ = some (.slice A l c) := (HW.out.cell (p := ⟨b, off + k, none⟩) hb).trans h1
        have H4 := Lib.hid (h4.below HW.out)
        have hln : (bss.getD k []).length = l := h4.1
        have hlb := HH.out k hlt
        rw [hln] at hlb
        have HLN := Lib.hid hln
        clear hc h1 h4 hln
        go_wp2_with (first
          | (at_builtin
             refine wpList_append_any _ rfl (.const (.slice none 0 0)) (.tmp 18) _ rfl w.heap.size 5 i0 _ 1 1 Try.underlying22 hi0 hz0 hz1 hz2 rfl (by omega) (.slice none 0 0) 0 [] rfl
               (World.ownsRow_nil _ _ _ _) w.heap.size A l c (cells (bss.getD k [])) rfl H4.out.reads (cells_one _) (by simp only [maxLen]; omega) (by omega) (by omega) ?_
             intro v1 w1 hown1 hg1 hat1
             have hb1 : Below wr.heap.size wr w1 := (Below.refl _ _).grown hg1 (Nat.le_refl _) (fun k hk => by simp [Value.ownBlock] at hk)
             have hO1 : OwnB w1 w.heap.size v1 (bss.getD k []) := by unfold OwnB; rw [HLN.out]; simpa using hown1
             have HO1 := Lib.hid hO1
             have HOR1 := Lib.hid ((HO.out.below hb1))
             have HW1 := Lib.hid (HW.out.trans (hb1.mono hsz))
             have hs1 := hb1.size
             obtain ⟨A1, c1', hv1, hl1, hl1', _⟩ := hO1.form_ HLN.out
             subst hv1
             clear hown1 hg1 hat1 hb1 hO1)
          | (at_builtin
             refine wpList_append_own _ rfl (.tmp 17) (.tmp 20) _ rfl w.heap.size 22 i1 _ 1 24 Try.underlying34 hi1 hy0 hy1 hy2 rfl (by omega) v (bss.take k).length rs rfl
               (HOR1.out.list.alloc _) ⟨w1.heap.size, 0, none⟩ 1 1 [.slice A1 l c1'] rfl rfl (cell_one_new _ _ _) (by intro u hu; simp at hu; subst hu; rfl) (by rw [List.length_take]; simp only [maxLen]; omega) (by rw [List.length_take]; omega) (by simp; omega) ?_
             intro v2 w2 hown2 hg2 hat2))
        go_roundw
        case rel =>
          refine ⟨k + 1, rs ++ [.slice A1 l c1'], _, by omega, by go_num, rfl, ?_, ?_⟩
          · rw [take_all bss [] k (by rw [← HN.out]; exact hlt)]
            exact (OwnR.push (HOR1.out.below ((Below.refl _ _).alloc (Nat.le_refl _) _)) (HO1.out.below ((Below.refl _ _).alloc (Nat.le_refl _) _)) hown2 hg2)
          · refine (HW1.out.alloc (by omega) _).grown hg2 (by simp; omega) (fun k hk => (HOR1.out.list.lt k hk).1)
        case measure => simp [intOf]; omega
    · obtain rfl : k = n := by omega
      go_wp2_with fail
      go_ret
      refine ⟨v, rs, rfl, ?_, HW.out⟩
      have := HO.out
      rwa [List.take_of_length_le (by rw [HN.out]; exact Nat.le_refl _)] at this
end Go.Proofs.Ytnolmcdahpkcnaa
