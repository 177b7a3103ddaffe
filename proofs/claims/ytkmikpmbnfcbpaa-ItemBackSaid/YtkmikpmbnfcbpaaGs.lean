/- Contracts of the reference's put and bytes. -/
import Derived.Test.YtkmikpmbnfcbpaaGr
namespace Go.Proofs.Ytkmikpmbnfcbpaa
open Go.RowKit Go.Lib
set_option linter.unusedVariables false
open Tree Anyv

theorem be_cons (n j : Nat) : be n (j + 1) = UInt8.ofNat (n / 256 ^ j % 256) :: be n j := by
  induction j generalizing n with
  | zero => simp [be]
  | succ j ih =>
    rw [be, ih, be, Nat.div_div_eq_div_mul, Nat.mul_comm 256, ← Nat.pow_succ]
    rfl
theorem set_mid (j m : Nat) (b : UInt8) (r : List UInt8) : (cells (List.replicate (j + 1) 0 ++ r)).set j (.int .u8 b.toNat) = cells (List.replicate j 0 ++ b :: r) := by
  induction j with
  | zero => simp [cells]
  | succ j ih =>
    have e1 : cells (List.replicate (j + 1 + 1) 0 ++ r) = .int .u8 0 :: cells (List.replicate (j + 1) 0 ++ r) := rfl
    have e2 : cells (List.replicate (j + 1) 0 ++ b :: r) = .int .u8 0 :: cells (List.replicate j 0 ++ b :: r) := rfl
    rw [e1, e2, List.set_cons_succ, ih]

set_option maxHeartbeats 1000000 in
theorem put_calls (n size : Nat) (w : World) (hn : n < 18446744073709551616) (hs : size ≤ 8) :
    Calls Try.prog 56 #[.int .u64 n, .int .i64 size] w (RetB w (be n size)) := by
  obtain ⟨i0, hi0, hz0, hz1, hz2⟩ := info_parts byte_info
  go_enter Try.func56, Try.ntmps56
  go_wp2_with (first
    | (refine wpList_make_full _ rfl (.tmp 7) (.tmp 7) 22 rfl w.heap.size 5 i0 _ 1 Try.underlying22 hi0 hz0 hz1 .i64 .i64 (size : Int) (size : Int) size rfl rfl rfl rfl (by rw [hz2]; omega) (by simp only [maxLen]; omega) (Nat.le_refl _) ?_
       intro w2 hown2 hg2
       have HO2 : Hid (w2.ownsRow w.heap.size 5 1 (.slice (some ⟨w.heap.size, 0, none⟩) size size) size (cells (List.replicate size 0))) := by
         unfold Hid
         have e : (madeCells (Value.int .u8 0).cells (size * 1)).toList = cells (List.replicate size 0) := by
           show (madeCells #[Value.int .u8 0] (size * 1)).toList = _
           rw [toList_madeCells_one, Nat.mul_one]; simp [cells]
         rw [← e]; exact hown2
       have HB2 : Hid (Below w.heap.size w w2) := (Below.refl _ _).grown hg2 (Nat.le_refl _) (by simp)
       clear hown2 hg2))
  go_loopw [0, 6] (fun u i wr => ∃ k : Nat, k ≤ size ∧ i = .int .i64 ((k : Int) - 1) ∧ u = .int .u64 ((n / 256 ^ (size - k) : Nat) : Int) ∧ wr.ownsRow w.heap.size 5 1 (.slice (some ⟨w.heap.size, 0, none⟩) size size) size (cells (List.replicate k 0 ++ be n (size - k))) ∧ Below w.heap.size w wr) (fun _ i _ => (intOf i + 1).toNat)
  case atStart => exact ⟨size, Nat.le_refl _, by go_num, by simp, by rw [Nat.sub_self]; simpa [be] using HO2.out, HB2.out⟩
  case round =>
    obtain ⟨k, hk, rfl, rfl, hO, hbl⟩ := hrel
    have HO := Lib.hid hO
    have HW := Lib.hid hbl
    have hsz := hbl.size
    clear hO hbl
    by_cases hk0 : k = 0
    · subst hk0
      go_wp2_with fail
      go_ret
      refine ⟨_, rfl, ?_, HW.out⟩
      unfold OwnB
      rw [be_len]
      simpa using HO.out
    · obtain ⟨j, rfl⟩ : ∃ j, k = j + 1 := ⟨k - 1, by omega⟩
      have hje : ((j + 1 : Nat) : Int) - 1 = (j : Int) := by omega
      rw [hje]
      obtain ⟨q, hq⟩ : ∃ q, n / 256 ^ (size - (j + 1)) = q := ⟨_, rfl⟩
      have hqn : q < 18446744073709551616 := by rw [← hq]; exact Nat.lt_of_le_of_lt (Nat.div_le_self _ _) hn
      have HQ := Lib.hid hq
      have hcell := World.ownsRow.cellAt HO.out j (by omega)
      rw [show cells (List.replicate (j + 1) 0 ++ be n (size - (j + 1))) = cells (List.replicate (j + 1) 0) ++ cells (be n (size - (j + 1))) from cells_append _ _, List.getElem?_append_left (by rw [cells_len]; simp), cells_get (by simp)] at hcell
      have hfr := World.ownsRow.frozenAt HO.out j
      have hjs : j < size := by omega
      have HX : Hid (∀ x, x = .int .u8 ((q : Int) % 256) → (wr.setCell ⟨w.heap.size, j, none⟩ x).ownsRow w.heap.size 5 1 (.slice (some ⟨w.heap.size, 0, none⟩) size size) size (cells (List.replicate j 0 ++ be n (size - j))) ∧ Below w.heap.size w (wr.setCell ⟨w.heap.size, j, none⟩ x)) := fun x hx => by
        subst hx
        have h1 := World.ownsRow.stored HO.out j (.int .u8 ((q : Int) % 256))
        refine ⟨?_, HW.out.setCell (Nat.le_refl _) _⟩
        have e : (.int .u8 ((q : Int) % 256) : Value) = .int .u8 ((UInt8.ofNat (q % 256)).toNat : Int) := by
          rw [toNat_ofNat (Nat.mod_lt _ (by omega))]; rfl
        have h2 := h1.1
        rw [e, set_mid j 0, ← HQ.out, ← be_cons, show size - (j + 1) + 1 = size - j by omega] at h2
        rw [e, ← HQ.out]; exact h2
      rw [hq]
      clear hq hje
      have HQ2 : Hid (((q : Int) / 256) = ((n / 256 ^ (size - j) : Nat) : Int)) := by
        unfold Hid
        rw [← HQ.out, show size - j = size - (j + 1) + 1 by omega, Nat.pow_succ, ← Nat.div_div_eq_div_mul]; rfl
      go_wp2_with fail
      go_roundw
      case rel => exact ⟨j, by omega, rfl, by rw [HQ2.out], (HX.out _ rfl).1, (HX.out _ rfl).2⟩
      case measure => simp [intOf]


set_option maxHeartbeats 4000000 in
theorem bytes_calls (N : Nat) : ∀ (t : Tree) (a : Option Addr) (c : Nat) (w : World), t.count ≤ N → Right t → At w (· < w.heap.size) t a c → (enc t).length ≤ 100000000000 →
    Calls Try.prog 47 #[val t a c] w (RetB w (enc t)) := by
  induction N with
  | zero => intro t a c w h _ _ _; rw [count_eq] at h; omega
  | succ N ih =>
    intro t a c w hN hRt hA hlen
    obtain ⟨i0, hi0, hz0, hz1, hz2⟩ := info_parts byte_info
    rw [at_eq] at hA
    rw [count_eq] at hN
    rw [enc_eq] at hlen ⊢
    obtain ⟨hc1, hc2, hl⟩ := hA
    have hR2 := (right_eq t).1 hRt
    have hk := hR2.1.1
    have hRL := Lib.hid hR2.2
    clear hRt hR2
    unfold val
    obtain ⟨l, hL⟩ : ∃ l, t.list = l := ⟨_, rfl⟩
    rw [hL] at hc1 hl hN hlen hRL ⊢
    obtain ⟨n, hn⟩ : ∃ n, l.length = n := ⟨_, rfl⟩
    have HN := Lib.hid hn
    rw [hn] at hc1 hlen ⊢
    generalize t.kind = k0 at hk hlen ⊢
    generalize t.num = n0 at hlen ⊢
    generalize t.text = s0 at hlen ⊢
    have HCL := Lib.hid hN
    clear hL hn hN
    rcases hk with rfl | rfl | rfl
    · rw [if_pos rfl] at hlen ⊢
      have hwr := wrap_u64 n0
      have hul := u64N_lt n0
      obtain ⟨un, hun⟩ : ∃ un, u64N n0 = un := ⟨_, rfl⟩
      rw [hun] at hwr hul ⊢
      clear hlen hun
      go_enter Try.func47, Try.ntmps47
      go_wp2_with fail
      generalize hW : World.alloc (World.alloc w _) _ = W1
      have hO1 : OwnB W1 w.heap.size (.slice (some ⟨w.heap.size + 1, 0, none⟩) 1 1) [1] := by
        rw [← hW]
        have := (new_own (w.alloc (.cells #[.int .i64 1, .int .i64 n0, .string s0, .slice a n c] 26)) [1] (by simp)).base (base' := w.heap.size) (by simp)
        rw [size_alloc] at this
        exact this
      have hbk : Blk W1 w.heap.size 26 #[.int .i64 1, .int .i64 n0, .string s0, .slice a n c] := by rw [← hW]; exact boxed.alloc _
      have hb1 : Below w.heap.size w W1 := by rw [← hW]; exact ((Below.refl _ _).alloc (Nat.le_refl _) _).alloc (by simp) _
      have hs1 : W1.heap.size = w.heap.size + 2 := by rw [← hW]; simp
      clear hW
      have HO1 := Lib.hid hO1
      have HK1 := Lib.hid hbk
      have HB1 := Lib.hid hb1
      have hc0 := hbk.c0
      have hc1 := hbk.c1
      have hc2 := hbk.c2
      have hc3 := hbk.c3
      clear hO1 hbk hb1
      refine (put_calls un 8 _ hul (by omega)).mono ?_
      rintro e w3 ⟨v3, rfl, hO3, hb3⟩
      obtain ⟨A3, c3, rfl, q3, q3', hB3⟩ := hO3.form_ (be_len un 8)
      have HB3 := Lib.hid hB3
      have HW3 : Hid (Below w.heap.size w w3) := HB1.out.trans (hb3.mono (by omega))
      have HO13 : Hid (w3.ownsRow w.heap.size 5 1 (.slice (some ⟨w.heap.size + 1, 0, none⟩) 1 1) 1 (cells [1])) := HO1.out.below hb3
      have hk3 := HK1.out.below hb3 (by omega)
      have HK3 := Lib.hid hk3
      have hs3 := hb3.size
      have hc03 := hk3.c0
      have hc13 := hk3.c1
      have hc23 := hk3.c2
      have hc33 := hk3.c3
      clear hO3 hb3 hB3 hk3
      go_wp2_with (first
        | (at_builtin
           refine wpList_append_any _ rfl (.tmp 12) (.tmp 16) _ rfl w.heap.size 5 i0 _ 1 1 Try.underlying22 hi0 hz0 hz1 hz2 rfl (by omega) (.slice (some ⟨w.heap.size + 1, 0, none⟩) 1 1) 1 (cells [1]) rfl
             HO13.out w3.heap.size A3 8 c3 (cells (be (un) 8)) rfl HB3.out.reads (cells_one _) (by simp only [maxLen]; omega) (by omega) (by omega) ?_
           intro v4 w4 hown4 hg4 hat4
           have HO4 : Hid (OwnB w4 w.heap.size v4 (1 :: be (un) 8)) := ownB_of hown4 (by simp [cells]) (by simp [be_len]; try omega)
           have hk4 := HK3.out.grown hg4 (by simp [Value.ownBlock])
           have HK4 := Lib.hid hk4
           have hc04 := hk4.c0
           have hc14 := hk4.c1
           have hc24 := hk4.c2
           have hc34 := hk4.c3
           have HW4 : Hid (Below w.heap.size w w4) := HW3.out.grown hg4 (by omega) (fun k hk => by simp [Value.ownBlock] at hk; omega)
           have hs4 := hg4.size
           clear hown4 hg4 hat4 hk4))
      go_ret
      exact ⟨v4, rfl, HO4.out, HW4.out⟩
    · rw [if_neg (by omega), if_pos rfl] at hlen ⊢
      have hl9 : 5 + s0.size ≤ 100000000000 := by simp only [List.length_cons, List.length_append, be_len, txt_len] at hlen; omega
      have hwr : IntKind.u64.wrap (s0.size : Int) = (s0.size : Int) := by rw [wrap_u64]; unfold u64N; omega
      clear hlen
      go_enter Try.func47, Try.ntmps47
      go_wp2_with fail
      generalize hW : World.alloc (World.alloc w _) _ = W1
      have hO1 : OwnB W1 w.heap.size (.slice (some ⟨w.heap.size + 1, 0, none⟩) 1 1) [2] := by
        rw [← hW]
        have := (new_own (w.alloc (.cells #[.int .i64 2, .int .i64 n0, .string s0, .slice a n c] 26)) [2] (by simp)).base (base' := w.heap.size) (by simp)
        rw [size_alloc] at this
        exact this
      have hbk : Blk W1 w.heap.size 26 #[.int .i64 2, .int .i64 n0, .string s0, .slice a n c] := by rw [← hW]; exact boxed.alloc _
      have hb1 : Below w.heap.size w W1 := by rw [← hW]; exact ((Below.refl _ _).alloc (Nat.le_refl _) _).alloc (by simp) _
      have hs1 : W1.heap.size = w.heap.size + 2 := by rw [← hW]; simp
      clear hW
      have HO1 := Lib.hid hO1
      have HK1 := Lib.hid hbk
      have HB1 := Lib.hid hb1
      have hc0 := hbk.c0
      have hc1 := hbk.c1
      have hc2 := hbk.c2
      have hc3 := hbk.c3
      clear hO1 hbk hb1
      refine (put_calls s0.size 4 _ (by omega) (by omega)).mono ?_
      rintro e w3 ⟨v3, rfl, hO3, hb3⟩
      obtain ⟨A3, c3, rfl, q3, q3', hB3⟩ := hO3.form_ (be_len s0.size 4)
      have HB3 := Lib.hid hB3
      have HW3 : Hid (Below w.heap.size w w3) := HB1.out.trans (hb3.mono (by omega))
      have HO13 : Hid (w3.ownsRow w.heap.size 5 1 (.slice (some ⟨w.heap.size + 1, 0, none⟩) 1 1) 1 (cells [2])) := HO1.out.below hb3
      have hk3 := HK1.out.below hb3 (by omega)
      have HK3 := Lib.hid hk3
      have hs3 := hb3.size
      have hc03 := hk3.c0
      have hc13 := hk3.c1
      have hc23 := hk3.c2
      have hc33 := hk3.c3
      clear hO3 hb3 hB3 hk3
      go_wp2_with (first
        | (at_builtin
           refine wpList_append_any _ rfl (.tmp 21) (.tmp 26) _ rfl w.heap.size 5 i0 _ 1 1 Try.underlying22 hi0 hz0 hz1 hz2 rfl (by omega) (.slice (some ⟨w.heap.size + 1, 0, none⟩) 1 1) 1 (cells [2]) rfl
             HO13.out w3.heap.size A3 4 c3 (cells (be (s0.size) 4)) rfl HB3.out.reads (cells_one _) (by simp only [maxLen]; omega) (by omega) (by omega) ?_
           intro v4 w4 hown4 hg4 hat4
           have HO4 : Hid (OwnB w4 w.heap.size v4 (2 :: be (s0.size) 4)) := ownB_of hown4 (by simp [cells]) (by simp [be_len]; try omega)
           have hk4 := HK3.out.grown hg4 (by simp [Value.ownBlock])
           have HK4 := Lib.hid hk4
           have hc04 := hk4.c0
           have hc14 := hk4.c1
           have hc24 := hk4.c2
           have hc34 := hk4.c3
           have HW4 : Hid (Below w.heap.size w w4) := HW3.out.grown hg4 (by omega) (fun k hk => by simp [Value.ownBlock] at hk; omega)
           have hs4 := hg4.size
           clear hown4 hg4 hat4 hk4)
        | (at_builtin
           refine wpList_append_str _ rfl (.tmp 28) (.tmp 30) _ _ rfl w.heap.size 5 i0 Try.underlying22 Try.underlying9 hi0 hz0 hz1 hz2 v4 5 (cells (2 :: be s0.size 4)) rfl
             (by have := HO4.out; unfold OwnB at this; simpa [be_len] using this) s0 rfl (by simp only [maxLen]; omega) (by omega) (by omega) ?_
           intro v5 w5 hown5 hg5 hat5
           have HO5 : Hid (OwnB w5 w.heap.size v5 (2 :: (be s0.size 4 ++ txt s0))) := ownB_of hown5 (by simp [cells, txt_cells]) (by simp [be_len, txt_len]; omega)
           have hk5 := HK4.out.grown hg5 (fun e => own_blk_ne HO4.out HK4.out (by decide) e.symm)
           have hc05 := hk5.c0
           have HW5 : Hid (Below w.heap.size w w5) := HW4.out.grown hg5 (by omega) (fun k hk => (HO4.out.lt k hk).1)
           clear hown5 hg5 hat5 hk5))
      go_ret
      exact ⟨v5, rfl, HO5.out, HW5.out⟩
    · rw [if_neg (by omega), if_neg (by omega)] at hlen ⊢
      have hl9 : 5 + (encL l).length ≤ 100000000000 := by simp only [List.length_cons, List.length_append, be_len] at hlen; omega
      have hLn : n ≤ (encL l).length := by rw [← HN.out]; exact encL_len l
      have hwr : IntKind.u64.wrap (n : Int) = (n : Int) := by rw [wrap_u64]; unfold u64N; omega
      have HL9 := Lib.hid hl9
      have hn9 : 5 + n ≤ 100000000000 := by omega
      clear hlen hl9 hLn
      go_enter Try.func47, Try.ntmps47
      go_wp2_with fail
      generalize hW : World.alloc (World.alloc w _) _ = W1
      have hO1 : OwnB W1 w.heap.size (.slice (some ⟨w.heap.size + 1, 0, none⟩) 1 1) [3] := by
        rw [← hW]
        have := (new_own (w.alloc (.cells #[.int .i64 3, .int .i64 n0, .string s0, .slice a n c] 26)) [3] (by simp)).base (base' := w.heap.size) (by simp)
        rw [size_alloc] at this
        exact this
      have hbk : Blk W1 w.heap.size 26 #[.int .i64 3, .int .i64 n0, .string s0, .slice a n c] := by rw [← hW]; exact boxed.alloc _
      have hb1 : Below w.heap.size w W1 := by rw [← hW]; exact ((Below.refl _ _).alloc (Nat.le_refl _) _).alloc (by simp) _
      have hs1 : W1.heap.size = w.heap.size + 2 := by rw [← hW]; simp
      clear hW
      have HO1 := Lib.hid hO1
      have HK1 := Lib.hid hbk
      have HB1 := Lib.hid hb1
      have hc0 := hbk.c0
      have hc1 := hbk.c1
      have hc2 := hbk.c2
      have hc3 := hbk.c3
      clear hO1 hbk hb1
      refine (put_calls n 4 _ (by omega) (by omega)).mono ?_
      rintro e w3 ⟨v3, rfl, hO3, hb3⟩
      obtain ⟨A3, c3, rfl, q3, q3', hB3⟩ := hO3.form_ (be_len n 4)
      have HB3 := Lib.hid hB3
      have HW3 : Hid (Below w.heap.size w w3) := HB1.out.trans (hb3.mono (by omega))
      have HO13 : Hid (w3.ownsRow w.heap.size 5 1 (.slice (some ⟨w.heap.size + 1, 0, none⟩) 1 1) 1 (cells [3])) := HO1.out.below hb3
      have hk3 := HK1.out.below hb3 (by omega)
      have HK3 := Lib.hid hk3
      have hs3 := hb3.size
      have hc03 := hk3.c0
      have hc13 := hk3.c1
      have hc23 := hk3.c2
      have hc33 := hk3.c3
      clear hO3 hb3 hB3 hk3
      go_wp2_with (first
        | (at_builtin
           refine wpList_append_any _ rfl (.tmp 35) (.tmp 40) _ rfl w.heap.size 5 i0 _ 1 1 Try.underlying22 hi0 hz0 hz1 hz2 rfl (by omega) (.slice (some ⟨w.heap.size + 1, 0, none⟩) 1 1) 1 (cells [3]) rfl
             HO13.out w3.heap.size A3 4 c3 (cells (be (n) 4)) rfl HB3.out.reads (cells_one _) (by simp only [maxLen]; omega) (by omega) (by omega) ?_
           intro v4 w4 hown4 hg4 hat4
           have HO4 : Hid (OwnB w4 w.heap.size v4 (3 :: be (n) 4)) := ownB_of hown4 (by simp [cells]) (by simp [be_len]; try omega)
           have hk4 := HK3.out.grown hg4 (by simp [Value.ownBlock])
           have HK4 := Lib.hid hk4
           have hc04 := hk4.c0
           have hc14 := hk4.c1
           have hc24 := hk4.c2
           have hc34 := hk4.c3
           have HW4 : Hid (Below w.heap.size w w4) := HW3.out.grown hg4 (by omega) (fun k hk => by simp [Value.ownBlock] at hk; omega)
           have hs4 := hg4.size
           clear hown4 hg4 hat4 hk4))
      go_loopw [3, 4] (fun u i wr => ∃ (q : Nat) (v' : Value), q ≤ n ∧ i = .int .i64 (q : Nat) ∧ v' = u ∧ OwnB wr w.heap.size v' ((3 :: be n 4) ++ encL (l.take q)) ∧ Blk wr w.heap.size 26 #[.int .i64 3, .int .i64 n0, .string s0, .slice a n c] ∧ Below w.heap.size w wr) (fun _ i _ => n - (intOf i).toNat)
      case atStart => exact ⟨0, v4, Nat.zero_le _, rfl, rfl, by simpa [encL] using HO4.out, HK4.out, HW4.out⟩
      case round =>
        obtain ⟨q, v', hq, rfl, rfl, hO', hk', hbl⟩ := hrel
        have HO' := Lib.hid hO'
        have HK' := Lib.hid hk'
        have HBW := Lib.hid hbl
        have hsz := hbl.size
        have hgl := hk'.lt
        have hd3 := hk'.c3
        clear hO' hbl hk'
        by_cases hlt : q < n
        · rcases hl with h0 | ⟨b, off, rfl, hb, hAL⟩
          · rw [h0] at HN; have := HN.out; simp at this; omega
          have hq' : q < l.length := by rw [HN.out]; exact hlt
          obtain ⟨a', c', e0, e1, e2, e3, hAt⟩ := AtL.get l b off hAL q hq'
          have cell : ∀ o v, w.cell? ⟨b, o, none⟩ = some v → wr.cell? ⟨b, o, none⟩ = some v := fun o v h => (HBW.out.cell (p := ⟨b, o, none⟩) hb).trans h
          have f0 := cell _ _ e0
          have f1 := cell _ _ e1
          have f2 := cell _ _ e2
          have f3 := cell _ _ e3
          have hct := countL_take hq'
          have hcl2 := countL_le l (q + 1)
          have het := encL_take hq'
          have hel2 := encL_le l (q + 1)
          rw [het, List.length_append] at hel2
          have HET := Lib.hid het
          obtain ⟨m, hm⟩ : ∃ m, ((3 :: be n 4) ++ encL (l.take q)).length = m := ⟨_, rfl⟩
          obtain ⟨x, hx⟩ : ∃ x, (enc l[q]).length = x := ⟨_, rfl⟩
          have hmx : m + x ≤ 100000000000 := by
            rw [← hm, ← hx]; simp only [List.length_append, List.length_cons, be_len]; have := HL9.out; omega
          have HIH : Hid (∀ W, W = wr → Calls Try.prog 47 #[val l[q] a' c'] W (RetB W (enc l[q]))) := fun W e => by
            subst e
            exact ih _ _ _ _ (by have := HCL.out; omega) (rightL_mem hRL.out _ (List.getElem_mem hq')) ((hAt.below HBW.out).more hsz) (by rw [hx]; omega)
          have HM := Lib.hid hm
          have HX := Lib.hid hx
          unfold val at HIH
          clear hAL e0 e1 e2 e3 hAt cell hct hcl2 het hel2 hm hx
          go_wp2_with fail
          refine (HIH.out _ rfl).mono ?_
          rintro e w5 ⟨v5, rfl, hO5, hb5⟩
          obtain ⟨A5, c5, rfl, q5, q5', hB5⟩ := hO5.form_ HX.out
          have HB5 := Lib.hid hB5
          have HW5 : Hid (Below w.heap.size w w5) := HBW.out.trans (hb5.mono hsz)
          have HO15 : Hid (w5.ownsRow w.heap.size 5 1 v' m (cells ((3 :: be n 4) ++ encL (l.take q)))) := by have := HO'.out.below hb5; unfold OwnB at this; rw [HM.out] at this; exact this
          have HK5 := Lib.hid (HK'.out.below hb5 hgl)
          have hs5 := hb5.size
          clear hO5 hb5 hB5
          go_wp2_with (first
            | (at_builtin
               refine wpList_append_any _ rfl (.tmp 49) (.tmp 55) _ rfl w.heap.size 5 i0 _ 1 1 Try.underlying22 hi0 hz0 hz1 hz2 rfl (by omega) v' m (cells ((3 :: be n 4) ++ encL (l.take q))) rfl
                 HO15.out w5.heap.size A5 x c5 (cells (enc l[q])) rfl HB5.out.reads (cells_one _) (by simp only [maxLen]; omega) (by omega) (by omega) ?_
               intro v6 w6 hown6 hg6 hat6
               have HO6 : Hid (OwnB w6 w.heap.size v6 ((3 :: be n 4) ++ encL (l.take (q + 1)))) := ownB_of hown6 (by rw [HET.out, ← List.append_assoc, cells_append _ (enc l[q])]) (by rw [HET.out, ← List.append_assoc, List.length_append, HM.out, HX.out])
               have HK6 := Lib.hid (HK5.out.grown hg6 (fun e => own_blk_ne HO15.out HK5.out (by decide) e.symm))
               have HW6 : Hid (Below w.heap.size w w6) := HW5.out.grown hg6 (by omega) (fun k hk => (HO15.out.lt k hk).1)
               clear hown6 hg6 hat6))
          go_roundw
          case rel => exact ⟨q + 1, v6, by omega, by go_num, rfl, HO6.out, HK6.out, HW6.out⟩
          case measure => simp [intOf]; omega
        · obtain rfl : q = n := by omega
          have HF : Hid (OwnB wr w.heap.size v' (3 :: (be q 4 ++ encL l))) := by
            have := HO'.out
            rw [List.take_of_length_le (by rw [HN.out]; exact Nat.le_refl _)] at this
            unfold Hid; simpa using this
          go_wp2_with fail
          go_ret
          exact ⟨v', rfl, HF.out, HBW.out⟩
end Go.Proofs.Ytkmikpmbnfcbpaa
