/- JournalParts: the walk, of parts of any size. -/
import Derived.Test.YtnolmcdahpkcnaaFv
import Derived.Test.YtnolmcdahpkcnaaPd
import Derived.Laws.BitsAllLaws
import Derived.Deep.RegionHeld3
namespace Go.Proofs.Ytnolmcdahpkcnaa
open Go.RowKit
set_option linter.unusedVariables false

theorem OwnB.stored {w : World} {base g n cap : Nat} {bs : List UInt8} (h : OwnB w base (.slice (some ⟨g, 0, none⟩) n cap) bs) (hn : bs.length = n) (j : Nat) (y : UInt8) :
    OwnB (w.setCell ⟨g, j, none⟩ (.int .u8 y.toNat)) base (.slice (some ⟨g, 0, none⟩) n cap) (bs.set j y) := by
  have h1 := h
  unfold OwnB at h1 ⊢
  rw [hn] at h1
  rw [List.length_set, hn]
  have h2 := (World.ownsRow.stored h1 j (.int .u8 y.toNat)).1
  have e : cells (bs.set j y) = (cells bs).set j (.int .u8 y.toNat) := by simp [cells, List.map_set]
  rw [e]; exact h2
theorem OwnB.cellAt {w : World} {base g n cap : Nat} {bs : List UInt8} (h : OwnB w base (.slice (some ⟨g, 0, none⟩) n cap) bs) (hn : bs.length = n) {j : Nat} (hj : j < n) : w.cell? ⟨g, j, none⟩ = some (.int .u8 (bs.getD j 0).toNat) := by
  unfold OwnB at h
  rw [hn] at h
  rw [World.ownsRow.cellAt h j (by omega), cells_get (by omega)]
theorem OwnB.frozenAt {w : World} {base g n cap : Nat} {bs : List UInt8} (h : OwnB w base (.slice (some ⟨g, 0, none⟩) n cap) bs) (hn : bs.length = n) (j : Nat) : w.frozen? ⟨g, j, none⟩ = false := by
  unfold OwnB at h
  rw [hn] at h
  exact World.ownsRow.frozenAt h j
theorem flat_take {bss : List (List UInt8)} {k : Nat} (hk : k < bss.length) : (bss.take (k + 1)).flatten = (bss.take k).flatten ++ bss.getD k [] := by
  rw [take_all bss [] k hk, List.flatten_append]; simp

theorem flat_get : ∀ (bss : List (List UInt8)) (k : Nat), k < bss.length → (bss.getD k []).length ≤ bss.flatten.length := by
  intro bss
  induction bss with
  | nil => intro k hk; simp at hk
  | cons b bss ih =>
    intro k hk
    cases k with
    | zero => simp
    | succ k => have := ih k (by simpa using hk); simp only [List.getD_cons_succ, List.flatten_cons, List.length_append]; omega

set_option maxHeartbeats 2000000 in
theorem walk_journalParts_any (a0 : Option Addr) (len0 cap0 : Nat) (bss : List (List UInt8)) (a1 a2 : Int) (w : World) (hL : Lst w w.heap.size a0 len0 bss) (hc1 : len0 ≤ cap0) (hc2 : cap0 ≤ 9223372036854775807)
    (w1 : (Lit.int .u16 a1).wf = true) (w2 : (Lit.int .u8 a2).wf = true) (hbulk : ∀ i, i < len0 → (bss.getD i []).length ≤ 140737488351232) :
    Calls Try.prog 4 #[.slice a0 len0 cap0, .int .u16 a1, .int .u8 a2] w fun e w' => e = .returned (.bool true) ∧ Below w.heap.size w w' := by
  obtain ⟨i0, hi0, hz0, hz1, hz2⟩ := info_parts byte_info
  have HL := Lib.hid hL
  obtain ⟨c, rfl, hcl⟩ : ∃ c : Nat, a1 = c ∧ c ≤ 65535 := by
    have := w1
    have m1 : IntKind.u16.min = 0 := by decide
    have m2 : IntKind.u16.max = 65535 := by decide
    simp [Lit.wf, m1, m2] at this
    exact ⟨a1.toNat, by omega, by omega⟩
  obtain ⟨x, rfl⟩ : ∃ x : UInt8, a2 = x.toNat := by
    have h := bounds_u8 w2
    exact ⟨UInt8.ofNat a2.toNat, by rw [toNat_ofNat (by omega)]; omega⟩
  have HBK := Lib.hid hbulk
  clear w1 w2 hL hbulk
  have hx8 := x.toNat_lt
  go_enter Try.func4, Try.ntmps4
  go_wp2_with fail
  go_loopw [7, 8] (fun u i wr => ∃ (k : Nat) (v : Value), k ≤ len0 ∧ i = .int .i64 k ∧ v = u ∧ OwnB wr w.heap.size v (bss.take k).flatten ∧ (bss.take k).flatten.length ≤ 3000 ∧ Below w.heap.size w wr) (fun _ i _ => len0 - (intOf i).toNat)
  case atStart => exact ⟨0, _, Nat.zero_le _, rfl, rfl, by rw [List.take_zero]; exact OwnB.nil _ _, by simp, Below.refl _ _⟩
  case round =>
    obtain ⟨k, v, hk, rfl, rfl, hO, hT, hbl⟩ := hrel
    obtain ⟨T, hTT⟩ : ∃ T, (bss.take k).flatten = T := ⟨_, rfl⟩
    rw [hTT] at hO hT
    obtain ⟨t, ht⟩ : ∃ t, T.length = t := ⟨_, rfl⟩
    rw [ht] at hT
    obtain ⟨A, cA, rfl, qa, qa', hBA⟩ := hO.form_ ht
    have HO := Lib.hid hO
    have HW := Lib.hid hbl
    have HBA := Lib.hid hBA
    have hsz := hbl.size
    have HTT := Lib.hid hTT
    have HT := Lib.hid ht
    clear hO hbl hBA hTT ht
    by_cases hlt : k < len0
    · rcases HL.out.2 with h0 | ⟨b, off, rfl, hb, hcc⟩
      · omega
      · obtain ⟨A1, l, cl, h1, h2, h3, h4⟩ := hcc k hlt
        have hcell : wr.cell? ⟨b, off + k, none⟩ = some (.slice A1 l cl) := (HW.out.cell (p := ⟨b, off + k, none⟩) hb).trans h1
        have H4 := Lib.hid (h4.below HW.out)
        have hl1 : l ≤ 140737488351232 := by
          have := HBK.out k hlt
          have e := h4.1
          omega
        clear hcc h1 h4
        by_cases hbig : 3000 < t + l
        · have hbigI : (3000 : Int) < (t : Int) + (l : Int) := by omega
          go_wp2_with (first
            | (go_at_call 10; refine (known_calls _).mono ?_; rintro e w1 ⟨rfl, hb1⟩
               have HB1 : Hid (Below w.heap.size w w1) := HW.out.trans (hb1.mono hsz)
               clear hb1))
          try rw [Exit.noGoto_ret]
          go_ret
          exact ⟨rfl, HB1.out⟩
        · have hE : Hid ((bss.take (k + 1)).flatten = T ++ bss.getD k []) := by
            have := flat_take (bss := bss) (k := k) (by rw [HL.out.1]; exact hlt)
            rw [HTT.out] at this; exact this
          go_wp2_with (first
            | (at_builtin
               refine wpList_append_any _ rfl (.tmp 27) (.tmp 31) _ rfl w.heap.size 5 i0 _ 1 1 Try.underlying22 hi0 hz0 hz1 hz2 rfl (by omega) (.slice A t cA) t (cells T) rfl
                 (by have := HO.out; unfold OwnB at this; rw [HT.out] at this; exact this) w.heap.size A1 l cl (cells (bss.getD k [])) rfl H4.out.reads (cells_one _) (by simp only [maxLen]; omega) (by omega) (by omega) ?_
               intro v2 w2 hown2 hg2 hat2
               have HO2 : Hid (OwnB w2 w.heap.size v2 (bss.take (k + 1)).flatten) := by
                 unfold Hid OwnB; rw [hE.out, List.length_append, HT.out, H4.out.1, cells_append]; exact hown2
               have HW2 : Hid (Below w.heap.size w w2) := HW.out.grown hg2 hsz (fun k hk => (HO.out.lt k hk).1)
               clear hown2 hg2 hat2))
          go_roundw
          case rel => exact ⟨k + 1, v2, by omega, by go_num, rfl, HO2.out, by rw [hE.out, List.length_append, HT.out, H4.out.1]; omega, HW2.out⟩
          case measure => simp [intOf]; omega
    · obtain rfl : k = len0 := by omega
      have hflat : bss.flatten = T := by rw [← HTT.out, List.take_of_length_le (by rw [HL.out.1]; exact Nat.le_refl _)]
      have HF := Lib.hid hflat
      obtain ⟨sm, hsm⟩ : ∃ sm, sumN T = sm := ⟨_, rfl⟩
      have hsl := sumN_lt T
      rw [hsm] at hsl
      have HS := Lib.hid hsm
      have hsum : Hid (Calls Try.prog 13 #[.slice a0 k cap0] wr fun e w' => e = .returned (.int .u32 sm) ∧ wr = w') := by
        have := sum_calls wr w.heap.size a0 k cap0 bss (HL.out.below HW.out) (by omega)
        rw [HF.out, HS.out] at this; exact this
      have hrsum : Hid (Calls Try.prog 14 #[.slice A t cA] wr fun e w' => e = .returned (.int .i64 sm) ∧ wr = w') := by
        have := rsum_calls wr _ A t cA T HBA.out (by omega)
        rw [HS.out] at this; exact this
      have hsum1 : Hid (Calls Try.prog 13 #[.slice (some ⟨wr.heap.size, 0, none⟩) 1 1] (wr.alloc (.cells #[.slice A t cA] 22)) fun e w' => e = .returned (.int .u32 sm) ∧ (wr.alloc (.cells #[.slice A t cA] 22)) = w') := by
        have := sum_calls _ _ _ 1 1 [T] (lst_one HBA.out qa qa') (by omega)
        rw [show [T].flatten = T by simp, HS.out] at this; exact this
      clear hflat hsm
      have HWA : Hid (Below w.heap.size w (wr.alloc (.cells #[.slice A t cA] 22))) := HW.out.alloc hsz _
      go_wp2_with fail
      refine hsum.out.mono ?_
      rintro e w' ⟨rfl, rfl⟩
      go_wp2_with fail
      refine hrsum.out.mono ?_
      rintro e w' ⟨rfl, rfl⟩
      go_wp2_with fail
      refine hsum1.out.mono ?_
      rintro e w' ⟨rfl, rfl⟩
      by_cases ht0 : t = 0
      · have htb : ((t : Int) == 0) = true := by simp [ht0]
        clear ht0
        go_wp2_with fail
        refine (known_calls _).mono ?_
        rintro e w1 ⟨rfl, hb1⟩
        have HB1 : Hid (Below w.heap.size w w1) := HWA.out.trans (hb1.mono HWA.out.size)
        clear hb1
        go_wp2_with fail
        try rw [Exit.noGoto_ret]
        go_ret
        exact ⟨rfl, HB1.out⟩
      · by_cases hx0 : x = 0
        · have hxb : ((x.toNat : Int) == 0) = true := by simp [hx0]
          have htb : ((t : Int) == 0) = false := by simp; omega
          go_wp2_with (first
            | (go_at_call 10; refine (known_calls _).mono ?_; rintro e w1 ⟨rfl, hb1⟩
               have HB1 : Hid (Below w.heap.size w w1) := HWA.out.trans (hb1.mono HWA.out.size)
               clear hb1))
          try rw [Exit.noGoto_ret]
          go_ret
          exact ⟨rfl, HB1.out⟩
        · have hxn : x.toNat ≠ 0 := fun e => hx0 (UInt8.toNat_inj.1 (by simpa using e))
          have hxb : ((x.toNat : Int) == 0) = false := by simp; omega
          have htb : ((t : Int) == 0) = false := by simp; omega
          obtain ⟨j, hj⟩ : ∃ j, c % t = j := ⟨_, rfl⟩
          have hjt : j < t := by rw [← hj]; exact Nat.mod_lt _ (by omega)
          have hmod : (c : Int) % (t : Int) = (j : Int) := by rw [← hj]; push_cast; rfl
          have htm : (c : Int).tmod (t : Int) = (j : Int) := by rw [Int.tmod_eq_emod_of_nonneg (by omega)]; exact hmod
          clear hj
          go_wp2_with fail
          refine (copy_calls _ A t cA T ((HBA.out.alloc (Nat.le_refl _) _).more (by simp)) (by omega)).mono ?_
          rintro e w3 ⟨v3, rfl, hO3, hb3⟩
          obtain ⟨g, cg, rfl, hg1, hg2⟩ := World.ownsRow.form hO3 (by rw [HT.out]; omega)
          have HO3 := Lib.hid hO3
          rw [HT.out] at HO3 ⊢
          have HB3 : Hid (Below w.heap.size w w3) := HWA.out.trans (hb3.mono HWA.out.size)
          have hc3 := HO3.out.cellAt HT.out hjt
          have hf3 := HO3.out.frozenAt HT.out j
          obtain ⟨p, hp⟩ : ∃ p, T.getD j 0 = p := ⟨_, rfl⟩
          rw [hp] at hc3
          have hxor : bits .xor .u8 (p.toNat : Int) (x.toNat : Int) = ((p ^^^ x).toNat : Int) := by rw [xor_nat]; exact u8_xor_nat _ _ p.toNat_lt x.toNat_lt
          have hgt : g < w3.heap.size := hg2
          have hgb : w.heap.size ≤ g := by have := HWA.out.size; omega
          have hp8 := p.toNat_lt
          clear hO3 hb3 hg1 hg2
          have hjI : (j : Int) < (t : Int) := by omega
          have hj0 : (0 : Int) ≤ (j : Int) := by omega
          go_wp2_with fail
          have hpart : OwnB (w3.setCell ⟨g, j, none⟩ (.int .u8 ((p.toNat ^^^ x.toNat : Nat) : Int))).drew w.heap.size (.slice (some ⟨g, 0, none⟩) t cg) (T.set j (p ^^^ x)) := by
            have h1 := HO3.out.stored HT.out j (p ^^^ x)
            rw [xor_nat] at h1
            exact World.ownsRow.base (World.ownsRow.drew h1) HWA.out.size
          have hbel : Below w.heap.size w (w3.setCell ⟨g, j, none⟩ (.int .u8 ((p.toNat ^^^ x.toNat : Nat) : Int))).drew := by
            have h1 := HO3.out
            unfold OwnB at h1
            rw [HT.out] at h1
            exact (HB3.out.grown (World.ownsRow.stored h1 j _).2 HB3.out.size (fun k hk => by injection hk with hk; omega)).drew
          obtain ⟨A5, c5, e5, q5, q5', hB5⟩ := hpart.form_ (n := t) (by rw [List.length_set]; exact HT.out)
          injection e5 with e5 _ e5'
          subst e5 e5'
          have hne : sumN (T.set j (p ^^^ x)) ≠ sm := by
            rw [← HS.out]
            exact sumN_set (by rw [HT.out]; exact hjt) (by rw [hp]; exact xor_ne hx0)
          obtain ⟨W5, hW5⟩ : ∃ W5, W5 = (w3.setCell ⟨g, j, none⟩ (.int .u8 ((p.toNat ^^^ x.toNat : Nat) : Int))).drew := ⟨_, rfl⟩
          have HW5 := Lib.hid hW5
          have HB5 : Hid (Byt W5 W5.heap.size (some ⟨g, 0, none⟩) t (T.set j (p ^^^ x))) := by rw [hW5]; exact hB5
          have HK5 : Hid (Below w.heap.size w W5) := by rw [hW5]; exact hbel
          obtain ⟨sn, hsn⟩ : ∃ sn, sumN (T.set j (p ^^^ x)) = sn := ⟨_, rfl⟩
          rw [hsn] at hne
          have hneb : ((sn : Int) != (sm : Int)) = true := by simp; omega
          have hsum2 : Hid (Calls Try.prog 13 #[.slice (some ⟨W5.heap.size, 0, none⟩) 1 1] (W5.alloc (.cells #[.slice (some ⟨g, 0, none⟩) t cg] 22)) fun e w' => e = .returned (.int .u32 sn) ∧ (W5.alloc (.cells #[.slice (some ⟨g, 0, none⟩) t cg] 22)) = w') := by
            have := sum_calls _ _ _ 1 1 [T.set j (p ^^^ x)] (lst_one HB5.out q5 q5') (by omega)
            rw [show [T.set j (p ^^^ x)].flatten = T.set j (p ^^^ x) by simp, hsn] at this; exact this
          clear hpart hbel hB5 hW5 hsn
          go_region
          rw [← HW5.out]
          go_wp2_with fail
          refine hsum2.out.mono ?_
          rintro e w' ⟨rfl, rfl⟩
          go_wp2_with fail
          refine (known_calls _).mono ?_
          rintro e w6 ⟨rfl, hb6⟩
          have HK6 : Hid (Below w.heap.size w w6) := (HK5.out.alloc HK5.out.size _).trans (hb6.mono (by have := HK5.out.size; simp; omega))
          clear hb6
          go_wp2_with fail
          try rw [Exit.noGoto_ret]
          go_ret
          exact ⟨by first | rfl | (show Ending.returned (.bool ((sn : Int) != (sm : Int))) = _; rw [hneb]), HK6.out⟩
end Go.Proofs.Ytnolmcdahpkcnaa
