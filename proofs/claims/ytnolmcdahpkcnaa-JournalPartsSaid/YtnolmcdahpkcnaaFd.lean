/- Contracts of put and four over unknown worlds, of Copy, Frame and the reference's Frame. -/
import Derived.Test.YtnolmcdahpkcnaaWd
namespace Go.Proofs.Ytnolmcdahpkcnaa
open Go.RowKit
set_option linter.unusedVariables false

/-- A row of the call's own that holds the bytes bs. -/
def OwnB (w : World) (base : Nat) (v : Value) (bs : List UInt8) : Prop := w.ownsRow base 5 1 v bs.length (cells bs)
theorem OwnB.nil (w : World) (base : Nat) : OwnB w base (.slice none 0 0) [] := World.ownsRow_nil _ _ _ _
theorem OwnB.form {w : World} {base : Nat} {v : Value} {bs : List UInt8} (h : OwnB w base v bs) :
    ∃ a cap, v = .slice a bs.length cap ∧ bs.length ≤ cap ∧ cap ≤ 9223372036854775807 ∧ Byt w w.heap.size a bs.length bs := by
  rcases h.2 with ⟨rfl, h0⟩ | ⟨g, cap, cur, rfl, hb, hg, hn, hm, hr⟩
  · exact ⟨none, 0, by rw [h0], by omega, by omega, rfl, .inl h0⟩
  · refine ⟨_, cap, rfl, hn, by unfold maxLen at hm; omega, rfl, ?_⟩
    rcases Nat.eq_zero_or_pos bs.length with h0 | h0
    · exact .inl h0
    · refine .inr ⟨g, 0, rfl, (Array.getElem?_eq_some_iff.1 hg).1, fun i hi => ?_⟩
      have := World.ownsRow.cells (h : w.ownsRow base 5 1 _ _ _) (g := g) rfl i _ (cells_get hi)
      rwa [add_plain] at this
theorem Byt.reads {w : World} {B n : Nat} {a : Option Addr} {bs : List UInt8} (h : Byt w B a n bs) : Reads w B 1 a n (cells bs) := by
  refine ⟨by rw [cells_len, h.1, Nat.mul_one], fun h0 => ?_⟩
  obtain ⟨b, off, rfl, hb, hc⟩ := h.at_ h0
  refine ⟨_, rfl, hb, fun j u hu => ?_⟩
  have hj : j < bs.length := by have := (List.getElem?_eq_some_iff.1 hu).1; rwa [cells_len] at this
  rw [add_plain, hc j (by rw [← h.1]; exact hj)]
  rw [cells_get hj] at hu
  exact hu
theorem OwnB.lt {w : World} {base : Nat} {v : Value} {bs : List UInt8} (h : OwnB w base v bs) : ∀ k, v.ownBlock = some k → base ≤ k ∧ k < w.heap.size := World.ownsRow.lt h
theorem OwnB.below {w w' : World} {base : Nat} {v : Value} {bs : List UInt8} (h : OwnB w base v bs) (hb : Below w.heap.size w w') : OwnB w' base v bs := by
  refine ⟨h.1, ?_⟩
  rcases h.2 with h0 | ⟨g, cap, cur, rfl, hbg, hg, hr⟩
  · exact .inl h0
  · exact .inr ⟨g, cap, cur, rfl, hbg, by rw [hb.block g (Array.getElem?_eq_some_iff.1 hg).1]; exact hg, hr⟩

theorem _root_.Go.World.ownsRow.base {w : World} {base base' : Nat} {e : TypeId} {size n : Nat} {v : Value} {xs : List Value} (h : w.ownsRow base e size v n xs) (hb : base' ≤ base) : w.ownsRow base' e size v n xs := by
  refine ⟨h.1, ?_⟩
  rcases h.2 with h0 | ⟨g, cap, cur, rfl, hbg, hr⟩
  · exact .inl h0
  · exact .inr ⟨g, cap, cur, rfl, by omega, hr⟩

def RetB (w : World) (bs : List UInt8) (e : Ending) (w' : World) : Prop := ∃ v, e = .returned v ∧ OwnB w' w.heap.size v bs ∧ Below w.heap.size w w'
def RetB2 (w : World) (bs : List UInt8) (e : Ending) (w' : World) : Prop := ∃ v, e = .returned (.tuple #[v, .int .i64 0]) ∧ OwnB w' w.heap.size v bs ∧ Below w.heap.size w w'

theorem byte_info : (Try.prog.info? 5).map (fun i => (i.zero, i.size, i.bytes)) = some (some (.int .u8 0), 1, 1) := by kernel_rfl
theorem rows_info : (Try.prog.info? 22).map (fun i => (i.zero, i.size, i.bytes)) = some (some (.slice none 0 0), 1, 24) := by kernel_rfl

theorem cell_new {W : World} {n j : Nat} {C : Array Value} {t : TypeId} {fr : Nat × Nat} (h : n = W.heap.size) : (W.alloc (.cells C t fr)).cell? ⟨n, j, none⟩ = C[j]? := by
  subst h; exact World.cell?_alloc_mark _ _ _ _ _
theorem size_alloc (W : World) (o : Obj) : (W.alloc o).heap.size = W.heap.size + 1 := by simp

theorem new_byt (w : World) (bs : List UInt8) : Byt (w.alloc (.cells (cells bs).toArray 5)) (w.heap.size + 1) (some ⟨w.heap.size, 0, none⟩) bs.length bs := by
  refine ⟨rfl, .inr ⟨_, 0, rfl, by omega, fun i hi => ?_⟩⟩
  rw [Nat.zero_add, cell_new rfl, List.getElem?_toArray, cells_get hi]
theorem new_own (w : World) (bs : List UInt8) (hn : bs.length ≤ 9223372036854775807) : OwnB (w.alloc (.cells (cells bs).toArray 5)) w.heap.size (.slice (some ⟨w.heap.size, 0, none⟩) bs.length bs.length) bs := by
  refine ⟨by rw [cells_len, Nat.mul_one], .inr ⟨w.heap.size, bs.length, _, rfl, Nat.le_refl _, heap_alloc_new w _, Nat.le_refl _, by unfold maxLen; omega, by simp [cells_len], ?_⟩⟩
  rw [Nat.mul_one]
  show (cells bs).take bs.length = cells bs
  rw [← cells_len bs, List.take_length]

/-- The slice of slices that a call with one or two of them makes. -/
theorem lst_one {W : World} {A : Option Addr} {l c : Nat} {bs : List UInt8} (h : Byt W W.heap.size A l bs) (h1 : l ≤ c) (h2 : c ≤ 9223372036854775807) :
    Lst (W.alloc (.cells #[.slice A l c] 22)) (W.heap.size + 1) (some ⟨W.heap.size, 0, none⟩) 1 [bs] := by
  refine ⟨rfl, .inr ⟨_, 0, rfl, by omega, fun i hi => ?_⟩⟩
  obtain rfl : i = 0 := by omega
  exact ⟨A, l, c, by rw [cell_new rfl]; rfl, h1, h2, (h.alloc (Nat.le_refl _) _).more (by omega)⟩
theorem lst_two {W : World} {A A' : Option Addr} {l l' c c' : Nat} {bs bs' : List UInt8} (h : Byt W W.heap.size A l bs) (h1 : l ≤ c) (h2 : c ≤ 9223372036854775807)
    (h' : Byt W W.heap.size A' l' bs') (h1' : l' ≤ c') (h2' : c' ≤ 9223372036854775807) :
    Lst (W.alloc (.cells #[.slice A l c, .slice A' l' c'] 22)) (W.heap.size + 1) (some ⟨W.heap.size, 0, none⟩) 2 [bs, bs'] := by
  refine ⟨rfl, .inr ⟨_, 0, rfl, by omega, fun i hi => ?_⟩⟩
  have : i = 0 ∨ i = 1 := by omega
  rcases this with rfl | rfl
  · exact ⟨A, l, c, by rw [cell_new rfl]; rfl, h1, h2, (h.alloc (Nat.le_refl _) _).more (by omega)⟩
  · exact ⟨A', l', c', by rw [cell_new rfl]; rfl, h1', h2', (h'.alloc (Nat.le_refl _) _).more (by omega)⟩

theorem OwnB.form_ {w : World} {base n : Nat} {v : Value} {bs : List UInt8} (h : OwnB w base v bs) (hn : bs.length = n) :
    ∃ a cap, v = .slice a n cap ∧ n ≤ cap ∧ cap ≤ 9223372036854775807 ∧ Byt w w.heap.size a n bs := by subst hn; exact h.form

/-- put, its world left open. -/
theorem put_new (n : Nat) (w : World) (hn : n < 4294967296) : Calls Try.prog 29 #[.int .u32 n] w (RetB w (be4 n)) := by
  refine (put_calls n w hn).mono ?_
  rintro e w' ⟨rfl, rfl⟩
  exact ⟨_, rfl, new_own w (be4 n) (by rw [be4_len]; omega), (Below.refl _ _).alloc (Nat.le_refl _) _⟩
theorem four_new (n : Nat) (w : World) (hn : n < 4294967296) : Calls Try.prog 30 #[.int .i64 n] w (RetB w (be4 n)) := by
  refine (four_calls n w hn).mono ?_
  rintro e w' ⟨rfl, rfl⟩
  exact ⟨_, rfl, new_own w (be4 n) (by rw [be4_len]; omega), (Below.refl _ _).alloc (Nat.le_refl _) _⟩

set_option maxHeartbeats 400000 in
theorem copy_calls (w : World) (a : Option Addr) (n cap : Nat) (bs : List UInt8) (hr : Byt w w.heap.size a n bs) (hn : n ≤ 100000000) :
    Calls Try.prog 16 #[.slice a n cap] w (RetB w bs) := by
  obtain ⟨i0, hi0, hz0, hz1, hz2⟩ := info_parts byte_info
  have HL := Lib.hid hr.1
  have HR := Lib.hid hr.reads
  clear hr
  go_enter Try.func16, Try.ntmps16
  go_wp2_with (first
    | (at_builtin
       refine wpList_append_any _ rfl (.tmp 4) (.tmp 5) _ rfl w.heap.size 5 i0 _ 1 1 Try.underlying22 hi0 hz0 hz1 hz2 rfl (by omega) (.slice none 0 0) 0 [] rfl
         (World.ownsRow_nil _ _ _ _) w.heap.size a n cap (cells bs) rfl HR.out (cells_one _) (by simp only [maxLen]; omega) (by omega) (Nat.le_refl _) ?_
       intro v1 w1 hown1 hg1 hat1))
  go_ret
  refine ⟨v1, rfl, ?_, (Below.refl _ _).grown hg1 (Nat.le_refl _) (fun k hk => by simp [Value.ownBlock] at hk)⟩
  unfold OwnB
  rw [HL.out]
  simpa using hown1

set_option maxHeartbeats 1000000 in
theorem frame_calls (w : World) (a : Option Addr) (n cap : Nat) (bs : List UInt8) (hr : Byt w w.heap.size a n bs) (hc1 : n ≤ cap) (hc2 : cap ≤ 9223372036854775807) (hn : n ≤ 65536) :
    Calls Try.prog 11 #[.slice a n cap] w (RetB2 w (frame bs)) := by
  obtain ⟨i0, hi0, hz0, hz1, hz2⟩ := info_parts byte_info
  have HR := Lib.hid hr
  clear hr
  go_enter Try.func11, Try.ntmps11
  go_wp2_with fail
  refine (put_new n w (by omega)).mono ?_
  rintro e w1 ⟨v1, rfl, hO1, hb1⟩
  obtain ⟨A1, c1, rfl, hl1, hl1', hB1⟩ := hO1.form_ (be4_len n)
  have HO1 := Lib.hid hO1
  have HB1 := Lib.hid hB1
  have hs1 := hb1.size
  clear hO1 hB1
  go_wp2_with (first
    | (at_builtin
       refine wpList_append_any _ rfl (.const (.slice none 0 0)) (.tmp 13) _ rfl w1.heap.size 5 i0 _ 1 1 Try.underlying22 hi0 hz0 hz1 hz2 rfl (by omega) (.slice none 0 0) 0 [] rfl
         (World.ownsRow_nil _ _ _ _) w1.heap.size A1 4 c1 (cells (be4 n)) rfl HB1.out.reads (cells_one _) (by simp only [maxLen]; omega) (by omega) (Nat.le_refl _) ?_
       intro v2 w2 hown2 hg2 hat2
       clear hat2))
  have hb2 : Below w1.heap.size w1 w2 := (Below.refl _ _).grown hg2 (Nat.le_refl _) (fun k hk => by simp [Value.ownBlock] at hk)
  have hO2 : OwnB w2 w1.heap.size v2 (be4 n) := by unfold OwnB; rw [be4_len]; simpa using hown2
  have HO2 := Lib.hid hO2
  have hs2 := hb2.size
  have HBW2 : Hid (Below w.heap.size w w2) := hb1.trans (hb2.mono (by omega))
  clear hown2 hg2 hO2
  refine (sum_calls _ _ _ _ _ [be4 n, bs] (lst_two ((HB1.out.below hb2).more hs2) hl1 hl1' ((HR.out.below HBW2.out).more (by omega)) hc1 hc2) (by omega)).mono ?_
  rintro e w' ⟨rfl, rfl⟩
  have hflat : [be4 n, bs].flatten = be4 bs.length ++ bs := by rw [HR.out.1]; simp
  rw [hflat]
  have hlt := sumN_lt (be4 bs.length ++ bs)
  have HF : Hid (frame bs = be4 bs.length ++ (be4 (sumN (be4 bs.length ++ bs)) ++ bs)) := rfl
  generalize sumN (be4 bs.length ++ bs) = sm at hlt HF ⊢
  clear hflat
  go_wp2_with fail
  refine (put_new sm _ hlt).mono ?_
  rintro e w3 ⟨v3, rfl, hO3, hb3⟩
  obtain ⟨A3, c3, rfl, hl3, hl3', hB3⟩ := hO3.form_ (be4_len sm)
  have hs3 := hb3.size
  have hs3' : w2.heap.size + 1 ≤ w3.heap.size := by simpa using hs3
  have hb3' : Below w2.heap.size w2 w3 := ((Below.refl _ _).alloc (Nat.le_refl _) _).trans (hb3.mono (by simp))
  have HB3 := Lib.hid hB3
  have HO23 := Lib.hid (HO2.out.below hb3')
  have HBW3 : Hid (Below w.heap.size w w3) := HBW2.out.trans (hb3'.mono (by omega))
  clear hO3 hB3 hs3 hb3
  go_wp2_with (first
    | (at_builtin
       refine wpList_append_any _ rfl (.tmp 14) (.tmp 19) _ rfl w1.heap.size 5 i0 _ 1 1 Try.underlying22 hi0 hz0 hz1 hz2 rfl (by omega) v2 4 (cells (be4 n)) rfl
         HO23.out w3.heap.size A3 4 c3 (cells (be4 sm)) rfl HB3.out.reads (cells_one _) (by simp only [maxLen]; omega) (by omega) (by omega) ?_
       intro v4 w4 hown4 hg4 hat4
       have hb4 : Below w1.heap.size w3 w4 := (Below.refl _ _).grown hg4 (by omega) (fun k hk => (HO23.out.lt k hk).1)
       have HBW4 : Hid (Below w.heap.size w w4) := HBW3.out.trans (hb4.mono (by omega))
       have hs4 := hb4.size
       have HO4 := Lib.hid hown4
       clear hown4 hg4 hat4)
    | (at_builtin
       refine wpList_append_any _ rfl (.tmp 21) (.tmp 22) _ rfl w1.heap.size 5 i0 _ 1 1 Try.underlying22 hi0 hz0 hz1 hz2 rfl (by omega) v4 (4 + 4) (cells (be4 n) ++ cells (be4 sm)) rfl
         HO4.out w.heap.size a n cap (cells bs) rfl (HR.out.below HBW4.out).reads (cells_one _) (by simp only [maxLen]; omega) (by omega) (by omega) ?_
       intro v5 w5 hown5 hg5 hat5))
  have hb5 : Below w1.heap.size w4 w5 := (Below.refl _ _).grown hg5 (by omega) (fun k hk => (HO4.out.lt k hk).1)
  have HO5 : Hid (OwnB w5 w.heap.size v5 (frame bs)) := by
    unfold Hid OwnB
    rw [frame_len, HF.out, HR.out.1]
    have h := hown5
    rw [← cells_append, ← cells_append, List.append_assoc] at h
    exact h.base (by omega)
  have HBW5 : Hid (Below w.heap.size w w5) := HBW4.out.trans (hb5.mono (by omega))
  clear hown5 hg5 hat5
  go_wp2_with fail
  go_ret2
  exact ⟨v5, rfl, HO5.out, HBW5.out⟩

theorem frame_long (w : World) (a : Option Addr) (n cap : Nat) (hn : 65536 < n) (hm : n ≤ 9223372036854775807) :
    Calls Try.prog 11 #[.slice a n cap] w fun e w' => e = .returned (.tuple #[.slice none 0 0, .int .i64 3]) ∧ w = w' := by
  go_enter Try.func11, Try.ntmps11
  go_wp2_with fail
  go_ret2
  exact ⟨rfl, rfl⟩
end Go.Proofs.Ytnolmcdahpkcnaa
