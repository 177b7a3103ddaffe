/- JournalHurt: the walk. -/
import Derived.Test.YtnolmcdahpkcnaaWJournalParts
import Derived.Test.YtnolmcdahpkcnaaWJournalScans
import Derived.Test.YtnolmcdahpkcnaaPe
namespace Go.Proofs.Ytnolmcdahpkcnaa
open Go.RowKit
set_option linter.unusedVariables false

theorem longN_flat (l : List (List UInt8)) : longN l = 8 * l.length + l.flatten.length := by
  induction l with
  | nil => simp [longN, framesL]
  | cons r l ih =>
    unfold longN at ih ⊢
    rw [framesL_cons, List.length_append, frame_len, ih, List.flatten_cons, List.length_append, List.length_cons]
    omega
theorem Lst.pre {w : World} {B n : Nat} {a : Option Addr} {bss : List (List UInt8)} (h : Lst w B a n bss) (m : Nat) (hm : m ≤ n) : Lst w B a m (bss.take m) := by
  refine ⟨by rw [List.length_take, h.1]; omega, ?_⟩
  rcases Nat.eq_zero_or_pos m with h0 | h0
  · exact .inl h0
  · rcases h.2 with h1 | ⟨b, off, e, hb, hc⟩
    · omega
    · refine .inr ⟨b, off, e, hb, fun i hi => ?_⟩
      have e2 : (bss.take m).getD i [] = bss.getD i [] := by rw [List.getD_eq_getElem?_getD, List.getD_eq_getElem?_getD, List.getElem?_take, if_pos hi]
      rw [e2]
      exact hc i (by omega)
theorem rec_le {bss : List (List UInt8)} {N : Nat} (h : longN bss ≤ N) (i : Nat) (hi : i < bss.length) : (bss.getD i []).length ≤ N := by
  have := flat_get bss i hi
  have := longN_flat bss
  omega
theorem mem_le {bss : List (List UInt8)} {N : Nat} (h : longN bss ≤ N) (r : List UInt8) (hr : r ∈ bss) : r.length ≤ N := by
  obtain ⟨i, hi, rfl⟩ := List.getElem_of_mem hr
  have := rec_le h i hi
  rwa [getD_eq hi] at this

set_option maxHeartbeats 2000000 in
theorem walk_journalHurt (a0 : Option Addr) (len0 cap0 : Nat) (bss : List (List UInt8)) (a1 a2 : Int) (w : World) (hL : Lst w w.heap.size a0 len0 bss) (hc1 : len0 ≤ cap0) (hc2 : cap0 ≤ 9223372036854775807)
    (w1 : (Lit.int .u16 a1).wf = true) (w2 : (Lit.int .u8 a2).wf = true) (hbulk : len0 + bss.flatten.length ≤ 1048576) :
    Calls Try.prog 5 #[.slice a0 len0 cap0, .int .u16 a1, .int .u8 a2] w fun e w' => e = .returned (.bool true) ∧ Below w.heap.size w w' := by
  have HL := Lib.hid hL
  obtain ⟨c, rfl, hcl⟩ : ∃ c : Nat, a1 = c ∧ c ≤ 65535 := by
    have := w1
    have m1 : IntKind.u16.min = 0 := by decide
    have m2 : IntKind.u16.max = 65535 := by decide
    simp [Lit.wf, m1, m2] at this
    exact ⟨a1.toNat, by omega, by omega⟩
  obtain ⟨x, rfl⟩ : ∃ x : UInt8, a2 = x.toNat := by
    have h := bounds_u8 w2
    exact ⟨UInt8.ofNat a2.toNat, by rw [toNat_ofNat (by omega)]; omega⟩
  clear w1 w2
  have hx8 := x.toNat_lt
  have hflat := longN_flat bss
  rw [hL.1] at hflat
  have hlong := long_calls w w.heap.size a0 len0 cap0 bss hL (by omega)
  obtain ⟨tot, htot⟩ : ∃ tot, longN bss = tot := ⟨_, rfl⟩
  have HTOT := Lib.hid htot
  rw [htot] at hflat hlong
  clear hL htot
  by_cases hbig : 2000 < tot
  · have HLO : Hid (Calls Try.prog 17 #[.slice a0 len0 cap0] w fun e w' => e = .returned (.bool true) ∧ w = w') := by
      rw [decide_eq_true (by omega)] at hlong; exact hlong
    clear hlong
    go_enter Try.func5, Try.ntmps5
    go_wp2_with fail
    refine HLO.out.mono ?_
    rintro e w' ⟨rfl, rfl⟩
    go_wp2_with fail
    refine (known_calls _).mono ?_
    rintro e w1 ⟨rfl, hb⟩
    go_wp2_with fail
    go_ret
    exact ⟨rfl, hb⟩
  · have HLO : Hid (Calls Try.prog 17 #[.slice a0 len0 cap0] w fun e w' => e = .returned (.bool false) ∧ w = w') := by
      rw [decide_eq_false (by omega)] at hlong; exact hlong
    clear hlong
    by_cases h0 : len0 = 0
    · have h0b : ((len0 : Int) == 0) = true := by simp [h0]
      clear h0
      go_enter Try.func5, Try.ntmps5
      go_wp2_with fail
      refine HLO.out.mono ?_
      rintro e w' ⟨rfl, rfl⟩
      go_wp2_with fail
      refine (known_calls _).mono ?_
      rintro e w1 ⟨rfl, hb⟩
      go_wp2_with fail
      go_ret
      exact ⟨rfl, hb⟩
    · have h0b : ((len0 : Int) == 0) = false := by simp; omega
      by_cases hx0 : x = 0
      · have hxb : ((x.toNat : Int) == 0) = true := by simp [hx0]
        clear hx0
        go_enter Try.func5, Try.ntmps5
        go_wp2_with fail
        refine HLO.out.mono ?_
        rintro e w' ⟨rfl, rfl⟩
        go_wp2_with fail
        refine (known_calls _).mono ?_
        rintro e w1 ⟨rfl, hb⟩
        go_wp2_with fail
        go_ret
        exact ⟨rfl, hb⟩
      · have hxn : x.toNat ≠ 0 := fun e => hx0 (UInt8.toNat_inj.1 (by simpa using e))
        have hxb : ((x.toNat : Int) == 0) = false := by simp; omega
        obtain ⟨k, hk⟩ : ∃ k, c % tot = k := ⟨_, rfl⟩
        have hkt : k < tot := by rw [← hk]; exact Nat.mod_lt _ (by omega)
        have hmod : (c : Int) % (tot : Int) = (k : Int) := by rw [← hk]; push_cast; rfl
        have hkI : (k : Int) < (tot : Int) := by omega
        have hk0 : (0 : Int) ≤ (k : Int) := by omega
        have hFL : Hid ((framesL bss).length = tot) := HTOT.out
        have hfr : Hid (Calls Try.prog 18 #[.slice a0 len0 cap0] w (RetB w (framesL bss))) :=
          frames_calls w a0 len0 cap0 bss HL.out (fun i hi => Nat.le_trans (rec_le (N := 2000) (by rw [HTOT.out]; omega) i hi) (by omega)) (by rw [HTOT.out]; omega)
        have HM : Hid (∀ r ∈ bss, r.length ≤ 65536) := fun r hr => Nat.le_trans (mem_le (N := 2000) (by rw [HTOT.out]; omega) r hr) (by omega)
        obtain ⟨F, hF⟩ : ∃ F, framesL bss = F := ⟨_, rfl⟩
        have HF := Lib.hid hF
        rw [hF] at hFL hfr
        have ht8 : 8 ≤ tot := by omega
        have ht2 : tot ≤ 2000 := by omega
        have hln : len0 ≤ 2000 := by omega
        clear hk hF hflat hbulk
        go_enter Try.func5, Try.ntmps5
        go_wp2_with fail
        refine HLO.out.mono ?_
        rintro e w' ⟨rfl, rfl⟩
        go_wp2_with fail
        refine hfr.out.mono ?_
        rintro e w3 ⟨v3, rfl, hO3, hb3⟩
        obtain ⟨g, cg, rfl, hgb, hgt⟩ := World.ownsRow.form hO3 (by rw [hFL.out]; omega)
        have HO3 := Lib.hid hO3
        rw [hFL.out] at HO3 ⊢
        have HB3 := Lib.hid hb3
        have hs3 := hb3.size
        have hc3 := HO3.out.cellAt hFL.out hkt
        have hf3 := HO3.out.frozenAt hFL.out k
        obtain ⟨p, hp⟩ : ∃ p, F.getD k 0 = p := ⟨_, rfl⟩
        have HP := Lib.hid hp
        rw [hp] at hc3
        have hxor : bits .xor .u8 (p.toNat : Int) (x.toNat : Int) = ((p ^^^ x).toNat : Int) := by rw [xor_nat]; exact u8_xor_nat _ _ p.toNat_lt x.toNat_lt
        have hp8 := p.toNat_lt
        have hpart : OwnB (w3.setCell ⟨g, k, none⟩ (.int .u8 ((p.toNat ^^^ x.toNat : Nat) : Int))) w.heap.size (.slice (some ⟨g, 0, none⟩) tot cg) (F.set k (p ^^^ x)) := by
          have h1 := HO3.out.stored hFL.out k (p ^^^ x)
          rw [xor_nat] at h1
          exact h1
        have hbel : Below w.heap.size w (w3.setCell ⟨g, k, none⟩ (.int .u8 ((p.toNat ^^^ x.toNat : Nat) : Int))) := by
          have h1 := HO3.out
          unfold OwnB at h1
          rw [hFL.out] at h1
          exact HB3.out.grown (World.ownsRow.stored h1 k _).2 hs3 (fun k hk => by injection hk with hk; omega)
        obtain ⟨A5, c5, e5, q5, q5', hB5⟩ := hpart.form_ (n := tot) (by rw [List.length_set]; exact hFL.out)
        injection e5 with e5 _ e5'
        subst e5 e5'
        obtain ⟨W5, hW5⟩ : ∃ W5, W5 = w3.setCell ⟨g, k, none⟩ (.int .u8 ((p.toNat ^^^ x.toNat : Nat) : Int)) := ⟨_, rfl⟩
        have HW5 := Lib.hid hW5
        have HB5 : Hid (Byt W5 W5.heap.size (some ⟨g, 0, none⟩) tot (F.set k (p ^^^ x))) := by rw [hW5]; exact hB5
        have HK5 : Hid (Below w.heap.size w W5) := by rw [hW5]; exact hbel
        have hsc : Hid (Calls Try.prog 19 #[.slice (some ⟨g, 0, none⟩) tot cg] W5 (RetS W5 (scanS (F.set k (p ^^^ x))))) := scan_calls W5 _ tot cg _ HB5.out q5 q5' (by omega)
        obtain ⟨sl, sk, sx, hs⟩ : ∃ sl sk sx, scanS (F.set k (p ^^^ x)) = (sl, sk, sx) := ⟨_, _, _, rfl⟩
        have HS := Lib.hid hs
        rw [hs] at hsc
        clear hpart hbel hB5 hW5 hs hO3 hb3 hp
        go_wp2_with fail
        rw [← HW5.out]
        refine hsc.out.mono ?_
        rintro e w6 ⟨v6, rows6, rfl, hR6, hb6⟩
        obtain ⟨n6, hn6⟩ : ∃ n6, sl.length = n6 := ⟨_, rfl⟩
        obtain ⟨A6, c6, rfl, q6, q6', hL6⟩ := hR6.form_ hn6
        have HL6 := Lib.hid hL6
        have HN6 := Lib.hid hn6
        have HK6 : Hid (Below w.heap.size w w6) := HK5.out.trans (hb6.mono HK5.out.size)
        clear hR6 hb6 hL6 hn6
        go_wp2_with fail
        go_loop [12, 13, 14] (fun u f i => ∃ (m at_ : Nat), m ≤ len0 ∧ u = .int .i64 m ∧ f = .int .i64 at_ ∧ i = .int .i64 m ∧ at_ = longN (bss.take m) ∧ at_ ≤ k) (fun _ _ i => len0 - (intOf i).toNat)
        case atStart => exact ⟨0, 0, Nat.zero_le _, rfl, rfl, rfl, by simp [longN, framesL], Nat.zero_le _⟩
        case round =>
          obtain ⟨m, at_, hm, rfl, rfl, rfl, hat, hatk⟩ := hrel
          have HAT := Lib.hid hat
          clear hat
          have hlt : m < len0 := by
            rcases Nat.lt_or_ge m len0 with h | h
            · exact h
            · have e : m = len0 := by omega
              have := HAT.out
              rw [e, List.take_of_length_le (by rw [HL.out.1]; exact Nat.le_refl _), HTOT.out] at this
              omega
          rcases HL.out.2 with h1 | ⟨b, off, rfl, hb, hcc⟩
          · omega
          obtain ⟨A1, l, cl, h1, h2, h3, h4⟩ := hcc m hlt
          have hcell : w6.cell? ⟨b, off + m, none⟩ = some (.slice A1 l cl) := (HK6.out.cell (p := ⟨b, off + m, none⟩) hb).trans h1
          have HS1 : Hid (longN (bss.take (m + 1)) = at_ + 8 + l) := by
            have := longN_take (lss := bss) (k := m) (by rw [HL.out.1]; exact hlt)
            rw [h4.1, ← HAT.out] at this; exact this
          have hlt2 : at_ + 8 + l ≤ 2000 := by
            have := longN_le bss (m + 1)
            rw [HS1.out, HTOT.out] at this; omega
          have HCUT := Lib.hid (HL.out.below HK6.out)
          clear hcc h1 h4
          by_cases hgo : at_ + 8 + l ≤ k
          · have hgoI : (at_ : Int) + 8 + (l : Int) ≤ (k : Int) := by omega
            go_wp2_with fail
            go_round
            case rel => exact ⟨m + 1, at_ + 8 + l, by omega, by go_num, by go_num, by go_num, HS1.out.symm, hgo⟩
            case measure => simp [intOf]; omega
          · have hgoI : ¬ ((at_ : Int) + 8 + (l : Int) ≤ (k : Int)) := by omega
            by_cases hk4 : k < at_ + 4
            · have hk4I : (k : Int) < (at_ : Int) + 4 := by omega
              go_wp2_with fail
              refine (known_calls _).mono ?_
              rintro e w7 ⟨rfl, hb7⟩
              have HK7 : Hid (Below w.heap.size w w7) := HK6.out.trans (hb7.mono HK6.out.size)
              go_wp2_with fail
              try rw [Exit.noGoto_ret]
              go_ret
              exact ⟨rfl, HK7.out⟩
            · have hk4I : ¬ ((k : Int) < (at_ : Int) + 4) := by omega
              have hres := scan_hurt (bss := bss) (m := m) (k := k) (y := p ^^^ x) (by rw [HL.out.1]; exact hlt) HM.out (by rw [← HAT.out]; omega) (by rw [HS1.out]; omega) (by rw [HF.out, HP.out]; exact xor_ne hx0)
              rw [HF.out, HS.out, ← HAT.out] at hres
              injection hres with e1 e2
              injection e2 with e2 e3
              have hn6 : n6 = m := by rw [← HN6.out, e1, List.length_take, HL.out.1]; omega
              have HL6' : Hid (Lst w6 w6.heap.size A6 n6 (bss.take m)) := by rw [← e1]; exact HL6.out
              clear HS HN6 HL6 e1
              subst e2 e3 hn6
              have hcl : Hid (Calls Try.prog 20 #[.slice A6 n6 c6, .slice (some ⟨b, off, none⟩) n6 cap0] w6 fun e w' => e = .returned (.bool true) ∧ ∃ m, w' = w6.drewN m) :=
                lists_true HL6'.out (HCUT.out.pre n6 hm) q6 q6' (by omega) hc2 w6 rfl
              go_wp2_with fail
              refine hcl.out.mono ?_
              rintro e w' ⟨rfl, m, rfl⟩
              go_wp2_with fail
              refine (known_calls _).mono ?_
              rintro e w7 ⟨rfl, hb7⟩
              have HK7 : Hid (Below w.heap.size w w7) := (below_drewN HK6.out m).trans (hb7.mono HK6.out.size)
              go_wp2_with fail
              try rw [Exit.noGoto_ret]
              go_ret
              exact ⟨rfl, HK7.out⟩
end Go.Proofs.Ytnolmcdahpkcnaa
