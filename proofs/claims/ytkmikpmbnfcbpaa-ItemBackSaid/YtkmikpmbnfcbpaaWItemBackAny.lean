/- ItemBack: the walk, of values of any size. -/
import Derived.Test.YtkmikpmbnfcbpaaHx
import Derived.Test.YtkmikpmbnfcbpaaHk
namespace Go.Proofs.Ytkmikpmbnfcbpaa
open Go.RowKit Go.Lib
set_option linter.unusedVariables false
open Tree Anyv

theorem enc_small : ∀ N, ∀ t : Tree, t.count ≤ N → (enc t).length ≤ 9 * t.count + t.letters := by
  intro N
  induction N with
  | zero => intro t h; rw [count_eq] at h; omega
  | succ N ih =>
    intro t h
    have hl : ∀ l : List Tree, countL l ≤ N → (encL l).length ≤ 9 * countL l + lettersL l := by
      intro l
      induction l with
      | nil => intro _; simp [encL]
      | cons u r ih2 =>
        intro h
        simp only [countL] at h
        have h1 := ih u (by omega)
        have h2 := ih2 (by omega)
        simp only [encL, List.length_append, countL, lettersL]; omega
    rw [count_eq] at h
    have h1 := hl t.list (by omega)
    rw [enc_eq, count_eq, letters_eq]
    simp only [List.length_cons]
    split
    · rw [be_len]; omega
    · split
      · rw [List.length_append, be_len, txt_len]; omega
      · rw [List.length_append, be_len]; omega
/-- Cut short, bytes of a value are none. -/
theorem dec_pre {t u : Tree} {k : Nat} {e : Int} (hf : Fits t 20) (hw : Wf t) (hs : (enc t).length ≤ 4294967295) (hk : k < (enc t).length) (h : Dec ((enc t).take k) u e) : e = 5 := by
  rcases h with ⟨rfl, h1, h2, h3⟩ | ⟨rfl, _, _⟩
  · exfalso
    have e : enc u ++ (enc t).drop k = enc t ++ [] := by rw [h3, List.take_append_drop, List.append_nil]
    have l := congrArg List.length h3
    rw [List.length_take] at l
    have h4 := (enc_prefix u.count u t _ _ (Nat.le_refl _) h1.1 hf.1 h2 hw (by omega) hs e).2
    have h5 := congrArg List.length h4
    rw [List.length_drop] at h5
    simp at h5
    omega
  · rfl
/-- With anything behind them, they are none. -/
theorem dec_more {t u : Tree} {m : UInt8} {e : Int} (hf : Fits t 20) (hw : Wf t) (hs : (enc t).length ≤ 4294967294) (h : Dec (enc t ++ [m]) u e) : e = 5 := by
  rcases h with ⟨rfl, h1, h2, h3⟩ | ⟨rfl, _, _⟩
  · exfalso
    have e : enc u ++ [] = enc t ++ [m] := by rw [List.append_nil, h3]
    have l := congrArg List.length h3
    rw [List.length_append] at l
    simp only [List.length_cons, List.length_nil] at l
    have h4 := (enc_prefix u.count u t _ _ (Nat.le_refl _) h1.1 hf.1 h2 hw (by omega) (by omega) e).2
    cases h4
  · rfl
theorem dec_back {t u : Tree} {e : Int} (hf : Fits t 20) (hw : Wf t) (hs : (enc t).length ≤ 4294967295) (h : Dec (enc t) u e) : t = u ∧ e = 0 := by
  rcases h with ⟨rfl, h1, h2, h3⟩ | ⟨rfl, _, h3⟩
  · exact ⟨(enc_prefix u.count u t [] [] (Nat.le_refl _) h1.1 hf.1 h2 hw (by rw [h3]; exact hs) hs (by rw [h3])).1.symm, rfl⟩
  · exact absurd rfl (h3 t hf hw)

set_option maxRecDepth 20000 in
set_option maxHeartbeats 16000000 in
theorem walk_itemBack_any (t : Tree) (a : Option Addr) (c : Nat) (a1 : Option Addr) (n1 cp1 : Nat) (z1 : List Int) (cut mo : Int) (w : World) (hA : At w (· < w.heap.size) t a c) (hF : Wf t) (hz : IsRow .u8 w a1 n1 cp1 z1) (w2 : (Lit.int .u16 cut).wf = true) (w3 : (Lit.int .u8 mo).wf = true) (hS : Sized t) :
    Calls Try.prog 4 #[val t a c, .slice a1 n1 cp1, .int .u16 cut, .int .u8 mo] w fun e w' => e = .returned (.bool true) ∧ Below w.heap.size w w' := by
  obtain ⟨bs, hB, hn1, hn2⟩ := hz.byt
  obtain ⟨cu, rfl, hcu⟩ : ∃ c : Nat, cut = c ∧ c ≤ 65535 := by
    have := w2
    have m1 : IntKind.u16.min = 0 := by decide
    have m2 : IntKind.u16.max = 65535 := by decide
    simp [Lit.wf, m1, m2] at this
    exact ⟨cut.toNat, by omega, by omega⟩
  obtain ⟨m, rfl⟩ : ∃ x : UInt8, mo = x.toNat := by
    have h := bounds_u8 w3
    exact ⟨UInt8.ofNat mo.toNat, by rw [toNat_ofNat (by omega)]; omega⟩
  clear w2 w3 hz
  have hbx := boxed (w := w) (k := t.kind) (n := t.num) (s := t.text) (L := .slice a t.list.length c)
  generalize hW : w.alloc (.cells #[.int .i64 t.kind, .int .i64 t.num, .string t.text, .slice a t.list.length c] 26) = W1 at hbx
  have hA1 : At W1 (· < W1.heap.size) t a c := by rw [← hW]; exact at_alloc hA _
  have hb1 : Below w.heap.size w W1 := by rw [← hW]; exact (Below.refl _ _).alloc (Nat.le_refl _) _
  have hg : w.heap.size < W1.heap.size := hbx.lt
  have HBX := Lib.hid hbx
  have HB1 := Lib.hid hb1
  have HWW := Lib.hid hW
  have HA := Lib.hid hA1
  have HFW := Lib.hid hF
  have HLN : Hid (bs.length = n1) := hB.1
  have HLONG : Hid (Calls Try.prog 16 #[val t a c] W1 fun e w' => (∃ b : Bool, e = .returned (.bool b)) ∧ Below W1.heap.size W1 w') := long_any t a c W1 hA1
  have HKN : Hid (∀ W, Calls Try.prog 12 #[] W (Ret1 W (.bool true))) := fun W => known12 W
  have HTX : Hid (Fits t 20 → ∀ W, Below W1.heap.size W1 W → Calls Try.prog 17 #[val t a c] W fun e w' => (∃ n : Int, e = .returned (.int .i64 n) ∧ n = t.letters) ∧ Below W.heap.size W w') := fun hf W hb => (texts_big t.count t a c W (Nat.le_refl _) (by have h1 := letters_sized t.count t (Nat.le_refl _) hS; have h2 := hf.2.2; omega) (at_later hA1 hb)).mono fun e w' h => ⟨⟨_, h.1, rfl⟩, h.2⟩
  have HTX2 : Hid (∀ W, Below W1.heap.size W1 W → Calls Try.prog 17 #[val t a c] W (RetAnyI W)) := fun W hb => texts_any t.count t a c W (Nat.le_refl _) (at_later hA1 hb)
  have HTL : Hid (Fits t 20 → t.letters ≤ 1048576 → (enc t).length ≤ 2000000) := fun hf hle => by
    have h1 := enc_small t.count t (Nat.le_refl _)
    have h2 := hf.2.2
    omega
  have HBY : Hid (∀ W, Below W1.heap.size W1 W → Byt W W.heap.size a1 n1 bs) := fun W hb => ((hB.below hb1).below (hb.mono hb1.size)).more (by have := hb1.size; have := hb.size; omega)
  have HDB : Hid (n1 ≤ 2000 → ∀ W, Below W1.heap.size W1 W → Calls Try.prog 13 #[.slice a1 n1 cp1] W (RetD W bs)) := fun h W hb => decode13 W a1 n1 cp1 bs (HBY.out W hb) hn1 hn2 (by omega)
  have HENU : Hid (∀ u a2 c2, Fits u 20 → enc u = bs → n1 ≤ 2000 → ∀ W, At W (· < W.heap.size) u a2 c2 → Calls Try.prog 18 #[val u a2 c2] W (RetB2 W bs)) := fun u a2 c2 h1 h2 h3 W h4 => by
    have := encode18_yes u a2 c2 W h4 h1 (by rw [h2, HLN.out]; omega)
    rwa [h2] at this
  have HSB : Hid (∀ W A n cp, Byt W W.heap.size A n bs → Below W1.heap.size W1 W → Calls Try.prog 22 #[.slice A n cp, .slice a1 n1 cp1] W fun e w' => e = .returned (.bool true) ∧ W = w') := fun W A n cp h1 h2 =>
    (same22 W _ _ A a1 n n1 cp cp1 bs bs h1 (HBY.out W h2)).mono fun e w' h => ⟨by rw [h.1]; simp, h.2⟩
  have HE1 : Hid (Fits t 20 → (enc t).length ≤ 2000000 → ∀ W, Below W1.heap.size W1 W → Calls Try.prog 18 #[val t a c] W (RetB2 W (enc t))) := fun hf hl W hb => encode18_yes t a c W (at_later hA1 hb) hf (by omega)
  have HE3 : Hid (¬ Fits t 20 → ∀ W, Below W1.heap.size W1 W → Calls Try.prog 18 #[val t a c] W (Ret1 W (.tuple #[.slice none 0 0, .int .i64 2]))) := fun hf W hb => encode18_no t a c W (at_later hA1 hb) hf
  have HY1 : Hid (¬ Fits t 20 → ∀ W, Below W1.heap.size W1 W → Calls Try.prog 19 #[val t a c] W (Ret1 W (.tuple #[.nilIface, .int .i64 2]))) := fun hf W hb => any19_no t a c W (at_later hA1 hb) hf
  have HY2 : Hid (Fits t 20 → ∀ W, Below W1.heap.size W1 W → Calls Try.prog 19 #[val t a c] W fun e w' => ∃ v, e = .returned (.tuple #[v, .int .i64 0]) ∧ Lies w' (fun b => W.heap.size ≤ b ∧ b < w'.heap.size) (toA t) v ∧ Below W.heap.size W w') := fun hf W hb => any19_yes t a c W (at_later hA1 hb) hf
  have HOF : Hid (Fits t 20 → ∀ v W, Lies W (· < W.heap.size) (toA t) v → Calls Try.prog 21 #[v] W fun e w' => ∃ a c, e = .returned (.tuple #[val t a c, .int .i64 0]) ∧ At w' (fun b => W.heap.size ≤ b ∧ b < w'.heap.size) t a c ∧ Below W.heap.size W w') := fun hf v W hL => by
    have := of21_ok (toA t) v W hL (by have := size_toA t; have := hf.2.2; omega) (ty_toA t 0) (by rw [of_toA hf]; exact hf)
    rwa [of_toA hf] at this
  have HSM : Hid (∀ a2 c2 a3 c3 W, At W (· < W.heap.size) t a2 c2 → At W (· < W.heap.size) t a3 c3 → Calls Try.prog 15 #[val t a2 c2, val t a3 c3] W (RetQ W (t = t))) := fun a2 c2 a3 c3 W h h' => refSame15_calls t.count t t a2 a3 c2 c3 W (Nat.le_refl _) h h'
  unfold RetAnyI at HTX2
  unfold val at HLONG HTX HTX2 HE1 HE3 HY1 HY2 HOF HSM ⊢
  have hm8 := m.toNat_lt
  obtain ⟨i0, hi0, hz0, hz1, hz2⟩ := info_parts byte_info
  clear hA hA1 hbx hb1 hW hB hF hS
  go_enter Try.func4, Try.ntmps4
  go_wp2_with fail
  rw [HWW.out]
  refine HLONG.out.mono ?_
  rintro e w2 ⟨⟨br, rfl⟩, hb2⟩
  have HB2 := Lib.hid hb2
  have hk2 := HBX.out.below hb2 hg
  have HK2 := Lib.hid hk2
  have hs2 := hb2.size
  have hc0 := hk2.c0
  have hc1 := hk2.c1
  have hc2 := hk2.c2
  have hc3 := hk2.c3
  have hg2 : w.heap.size < w2.heap.size := by omega
  clear hb2 hk2
  cases br with
  | true =>
    go_wp2_with fail
    refine (HKN.out _).mono ?_
    rintro e w3 ⟨rfl, hb3⟩
    have HB3 : Hid (Below w.heap.size w w3) := HB1.out.trans ((HB2.out.trans (hb3.mono hs2)).mono (by omega))
    clear hb3
    go_wp2_with fail
    go_ret
    exact ⟨rfl, HB3.out⟩
  | false =>
    by_cases hf : Fits t 20
    · go_wp2_with fail
      refine (HTX.out hf w2 HB2.out).mono ?_
      rintro e w3 ⟨⟨le, rfl, hlee⟩, hb3⟩
      have HLEE := Lib.hid hlee
      clear hlee
      have HB3 : Hid (Below W1.heap.size W1 w3) := HB2.out.trans (hb3.mono hs2)
      have hk3 := HK2.out.below hb3 hg2
      have HK3 := Lib.hid hk3
      have hs3 := hb3.size
      have hc0 := hk3.c0
      have hc1 := hk3.c1
      have hc2 := hk3.c2
      have hc3 := hk3.c3
      have hg3 : w.heap.size < w3.heap.size := by omega
      clear hb3 hk3
      by_cases hle : (1048576 : Int) < le
      · go_wp2_with fail
        refine (HKN.out _).mono ?_
        rintro e w4 ⟨rfl, hb4⟩
        have HB4 : Hid (Below w.heap.size w w4) := HB1.out.trans ((HB3.out.trans (hb4.mono HB3.out.size)).mono HB1.out.size)
        clear hb4
        go_wp2_with fail
        go_ret
        exact ⟨rfl, HB4.out⟩
      have hle' : le ≤ 1048576 := by omega
      by_cases hl : 2000 < n1
      · have hlz : (2000 : Int) < (n1 : Int) := by omega
        go_wp2_with fail
        refine (HKN.out _).mono ?_
        rintro e w4 ⟨rfl, hb4⟩
        have HB4 : Hid (Below w.heap.size w w4) := HB1.out.trans ((HB3.out.trans (hb4.mono HB3.out.size)).mono HB1.out.size)
        clear hb4
        go_wp2_with fail
        go_ret
        exact ⟨rfl, HB4.out⟩
      · have hlz : ¬ ((2000 : Int) < (n1 : Int)) := by omega
        have hl2 : n1 ≤ 2000 := by omega
        have hl2' : (n1 : Int) ≤ 2000 := by omega
        replace HDB := Lib.hid (HDB.out hl2)
        have hen := HTL.out hf (by have := HLEE.out; omega)
        have hep := enc_pos t
        have HDP : Hid (∀ k u e, k < (enc t).length → Dec ((enc t).take k) u e → e = 5) := fun k u e hk h => dec_pre hf HFW.out (by omega) hk h
        have HDM : Hid (∀ u e, Dec (enc t ++ [m]) u e → e = 5) := fun u e h => dec_more hf HFW.out (by omega) h
        have HDT : Hid (∀ u e, Dec (enc t) u e → t = u ∧ e = 0) := fun u e h => dec_back hf HFW.out (by omega) h
        replace HE1 := Lib.hid (HE1.out hf hen)
        replace HY2 := Lib.hid (HY2.out hf)
        replace HOF := Lib.hid (HOF.out hf)
        obtain ⟨n4, hn4⟩ : ∃ n4, (enc t).length = n4 := ⟨_, rfl⟩
        rw [hn4] at hen hep HDP
        have HN4 := Lib.hid hn4
        clear hn4 hf
        go_wp2_with fail
        refine (HE1.out w3 HB3.out).mono ?_
        rintro e w4 ⟨v4, rfl, hO4, hb4⟩
        obtain ⟨A4, c4, rfl, hnc, hcm, hBy4⟩ := hO4.form_ HN4.out
        have HB4 : Hid (Below W1.heap.size W1 w4) := HB3.out.trans (hb4.mono HB3.out.size)
        have HBy4 := Lib.hid hBy4
        have hk4 := HK3.out.below hb4 hg3
        have HK4 := Lib.hid hk4
        have hc04 := hk4.c0
        have hc14 := hk4.c1
        have hc24 := hk4.c2
        have hc34 := hk4.c3
        have hg4 : w.heap.size < w4.heap.size := by have := hb4.size; omega
        clear hb4 hk4 hO4 hBy4
        go_wp2_with fail
        refine (HY2.out w4 HB4.out).mono ?_
        rintro e w5 ⟨v5, rfl, hL5, hb5⟩
        obtain ⟨T5, x5, rfl⟩ := hL5.iface
        have HB5 : Hid (Below W1.heap.size W1 w5) := HB4.out.trans (hb5.mono HB4.out.size)
        have HBy5 : Hid (∀ W, Below w5.heap.size w5 W → Byt W W.heap.size A4 n4 (enc t)) := fun W hb => ((HBy4.out.below hb5).below (hb.mono hb5.size)).more (Nat.le_trans hb5.size hb.size)
        have HK5 := Lib.hid (HK4.out.below hb5 hg4)
        have HL5 : Hid (Lies w5 (· < w5.heap.size) (toA t) (.iface T5 x5)) := hL5.imp fun b hb => hb.2
        have hg5 : w.heap.size < w5.heap.size := by have := hb5.size; omega
        clear hb5 hL5
        have HDK : Hid (∀ k, k ≤ n4 → ∀ W, Below w5.heap.size w5 W → Calls Try.prog 13 #[.slice A4 k c4] W (RetD W ((enc t).take k))) := fun k hk W hb => decode13 W A4 k c4 _ ((HBy5.out W hb).pre k hk) (by omega) hcm (by omega)
        have HD0 : Hid (∀ W, Below w5.heap.size w5 W → Calls Try.prog 13 #[.slice A4 n4 c4] W (RetD W (enc t))) := fun W hb => decode13 W A4 n4 c4 _ (HBy5.out W hb) hnc hcm (by omega)
        have hkl : cu % n4 < n4 := Nat.mod_lt _ (by omega)
        have hkb1 : 0 ≤ (cu : Int) % (n4 : Int) := by omega
        have hkb2 : (cu : Int) % (n4 : Int) ≤ (c4 : Int) := by omega
        have hn4z : ((n4 : Int) == 0) = false := beq_eq_false_iff_ne.2 (by omega)
        go_wp2_with fail
        refine (HD0.out w5 (Below.refl _ _)).mono ?_
        rintro e w6 ⟨u6, a6, c6, r6, rfl, hA6, hb6, hd6⟩
        obtain ⟨rfl, rfl⟩ := HDT.out _ _ hd6
        have hfz6 : ∀ (C : Array Value) (i : Nat), (w6.alloc (.cells C 26)).frozen? ⟨w6.heap.size, i, none⟩ = false := fun C i => World.frozen?_alloc_at C 26 _ i rfl
        have HA6 : Hid (At w6 (· < w6.heap.size) t a6 c6) := hA6.imp fun b hb => hb.2
        have HB56 := Lib.hid hb6
        have hs6 := hb6.size
        clear hA6 hb6 hd6
        unfold val
        go_wp2_with fail
        generalize hW7 : World.alloc w6 _ = w7
        have HB57 : Hid (Below w5.heap.size w5 w7) := by unfold Hid; rw [← hW7]; exact HB56.out.alloc hs6 _
        have HK7 : Hid (Blk w7 w6.heap.size 26 #[.int .i64 t.kind, .int .i64 t.num, .string t.text, .slice a6 t.list.length c6]) := by unfold Hid; rw [← hW7]; exact Blk.new w6 26 _
        have hs7 : w7.heap.size = w6.heap.size + 1 := by rw [← hW7]; simp
        have HA7 : Hid (At w7 (· < w7.heap.size) t a6 c6) := by unfold Hid; rw [← hW7]; exact at_alloc HA6.out _
        clear hW7 hfz6
        refine (HDK.out (cu % n4) (by omega) w7 HB57.out).mono ?_
        rintro e w8 ⟨u8, a8, c8, r8, rfl, -, hb8, hd8⟩
        obtain rfl := HDP.out _ _ _ hkl hd8
        have HB58 : Hid (Below w5.heap.size w5 w8) := HB57.out.trans (hb8.mono HB57.out.size)
        have HK8 := Lib.hid (HK7.out.below hb8 (by omega))
        have HA8 : Hid (At w8 (· < w8.heap.size) t a6 c6) := at_later HA7.out hb8
        have hs8 := hb8.size
        have hfz8 : ∀ (C : Array Value) (i : Nat), (w8.alloc (.cells C 26)).frozen? ⟨w8.heap.size, i, none⟩ = false := fun C i => World.frozen?_alloc_at C 26 _ i rfl
        clear hb8 hd8
        unfold val
        go_wp2_with fail
        generalize hW9 : World.alloc w8 _ = w9
        have HB59 : Hid (Below w5.heap.size w5 w9) := by unfold Hid; rw [← hW9]; exact HB58.out.alloc HB58.out.size _
        have HK9 : Hid (Blk w9 w6.heap.size 26 #[.int .i64 t.kind, .int .i64 t.num, .string t.text, .slice a6 t.list.length c6]) := by unfold Hid; rw [← hW9]; exact HK8.out.alloc _
        have hs9 : w9.heap.size = w8.heap.size + 1 := by rw [← hW9]; simp
        have HA9y : Hid (At w9 (· < w9.heap.size) t a6 c6) := by unfold Hid; rw [← hW9]; exact at_alloc HA8.out _
        clear hW9 hfz8
        refine (copy20 w9 A4 n4 c4 (enc t) (HBy5.out w9 HB59.out) (by omega)).mono ?_
        rintro e w10 ⟨v10, rfl, hO10, hb10⟩
        obtain ⟨A10, c10, rfl, _, _, _⟩ := hO10.form_ HN4.out
        have HO10 : Hid (w10.ownsRow w9.heap.size 5 1 (.slice A10 n4 c10) n4 (cells (enc t))) := by have := hO10; unfold OwnB at this; rw [HN4.out] at this; exact this
        have HB510 : Hid (Below w5.heap.size w5 w10) := HB59.out.trans (hb10.mono HB59.out.size)
        have HK10 := Lib.hid (HK9.out.below hb10 (by omega))
        have HA10 : Hid (At w10 (· < w9.heap.size) t a6 c6) := HA9y.out.below hb10
        have hs10 := hb10.size
        have hs59 := HB59.out.size
        clear hb10 hO10
        go_wp2_with (first
          | (at_builtin
             refine wpList_append_any _ rfl (.tmp 75) (.tmp 77) _ rfl w9.heap.size 5 i0 _ 1 1 Try.underlying22 hi0 hz0 hz1 hz2 rfl (by omega) (.slice A10 n4 c10) n4 (cells (enc t)) rfl
               (HO10.out.alloc _) (w10.heap.size + 1) (some ⟨w10.heap.size, 0, none⟩) 1 1 [.int .u8 m.toNat] rfl ⟨rfl, fun _ => ⟨_, rfl, by show w10.heap.size < w10.heap.size + 1; omega, fun i u hu => by
                 obtain rfl : i = 0 := by cases i with
                   | zero => rfl
                   | succ i => simp at hu
                 rw [add_plain, cell_new rfl]; simpa using hu⟩⟩ (by intro u hu; simp at hu; subst hu; rfl) (by simp only [maxLen]; omega) (by omega) (by simp; omega) ?_
             intro v11 w11 hown11 hg11 hat11
             have hO11 : OwnB w11 w9.heap.size v11 (enc t ++ [m]) := ownB_of hown11 (by simp [cells]) (by simp [HN4.out])
             obtain ⟨A11, c11, hv11, q1, q2, hBy11⟩ := hO11.form_ (n := n4 + 1) (by simp [HN4.out])
             subst hv11
             have HB511 : Hid (Below w5.heap.size w5 w11) := (HB510.out.alloc HB510.out.size _).grown hg11 (by simp; omega) (fun k hk => by have := (HO10.out.lt k hk).1; omega)
             have HK11 : Hid (Blk w11 w6.heap.size 26 #[.int .i64 t.kind, .int .i64 t.num, .string t.text, .slice a6 t.list.length c6]) := (HK10.out.alloc _).grown hg11 (fun e => by have := (HO10.out.lt _ e.symm).1; omega)
             have HA11 : Hid (At w11 (· < w11.heap.size) t a6 c6) := by
               refine (HA10.out.keep fun b hb => ?_).imp fun b hb => ?_
               · have hb' : b < w9.heap.size := hb
                 exact (hg11.block b (by simp; omega) (fun e => by have := (HO10.out.lt _ e.symm).1; omega)).trans (((Below.refl w10.heap.size w10).alloc (Nat.le_refl _) _).block b (by omega))
               · have := hg11.size
                 simp at this
                 have hb' : b < w9.heap.size := hb
                 show b < w11.heap.size
                 omega
             have HD11 : Hid (Calls Try.prog 13 #[.slice A11 (n4 + 1) c11] w11 (RetD w11 (enc t ++ [m]))) := decode13 w11 A11 (n4 + 1) c11 _ hBy11 q1 q2 (by omega)
             have hs11 : w6.heap.size < w11.heap.size := HK11.out.lt
             clear hown11 hg11 hat11 hO11 hBy11 q1 q2))
        refine HD11.out.mono ?_
        rintro e w12 ⟨u12, a12, c12, r12, rfl, -, hb12, hd12⟩
        obtain rfl := HDM.out _ _ hd12
        have HB512 : Hid (Below w5.heap.size w5 w12) := HB511.out.trans (hb12.mono HB511.out.size)
        have HK12 := Lib.hid (HK11.out.below hb12 hs11)
        have HA12 : Hid (At w12 (· < w12.heap.size) t a6 c6) := at_later HA11.out hb12
        have hs12 := hb12.size
        have hfz12 : ∀ (C : Array Value) (i : Nat), (w12.alloc (.cells C 26)).frozen? ⟨w12.heap.size, i, none⟩ = false := fun C i => World.frozen?_alloc_at C 26 _ i rfl
        clear hb12 hd12
        unfold val
        go_wp2_with fail
        generalize hW13 : World.alloc w12 _ = w13
        have HB513 : Hid (Below w5.heap.size w5 w13) := by unfold Hid; rw [← hW13]; exact HB512.out.alloc HB512.out.size _
        have HK13 : Hid (Blk w13 w6.heap.size 26 #[.int .i64 t.kind, .int .i64 t.num, .string t.text, .slice a6 t.list.length c6]) := by unfold Hid; rw [← hW13]; exact HK12.out.alloc _
        have hs13 : w13.heap.size = w12.heap.size + 1 := by rw [← hW13]; simp
        have HA13 : Hid (At w13 (· < w13.heap.size) t a6 c6) := by unfold Hid; rw [← hW13]; exact at_alloc HA12.out _
        clear hW13 hfz12
        refine (HOF.out _ w13 ((HL5.out.below HB513.out).more HB513.out.size)).mono ?_
        rintro e w14 ⟨a14, c14, rfl, hA14, hb14⟩
        have HB514 : Hid (Below w5.heap.size w5 w14) := HB513.out.trans (hb14.mono HB513.out.size)
        have hk14 := HK13.out.below hb14 (by omega)
        have HK14 := Lib.hid hk14
        have HA14 : Hid (At w14 (· < w14.heap.size) t a6 c6) := at_later HA13.out hb14
        have HZ14 : Hid (At w14 (· < w14.heap.size) t a14 c14) := hA14.imp fun b hb => hb.2
        have hk14x := HK5.out.below HB514.out hg5
        have HK14x := Lib.hid hk14x
        have hx0 := hk14x.c0
        have hx1 := hk14x.c1
        have hx2 := hk14x.c2
        have hx3 := hk14x.c3
        have hy0 := hk14.c0
        have hy1 := hk14.c1
        have hy2 := hk14.c2
        have hy3 := hk14.c3
        have hs14 := hb14.size
        have hs514 := HB514.out.size
        have hgx : w.heap.size < w14.heap.size := by omega
        have hgy : w6.heap.size < w14.heap.size := by omega
        have hfz14 : ∀ (C : Array Value) (i : Nat), (w14.alloc (.cells C 26)).frozen? ⟨w14.heap.size, i, none⟩ = false := fun C i => World.frozen?_alloc_at C 26 _ i rfl
        have HB114 : Hid (Below W1.heap.size W1 w14) := HB5.out.trans (HB514.out.mono HB5.out.size)
        clear hA14 hb14 hk14 hk14x
        go_wp2_with fail
        generalize hW15 : World.alloc w14 _ = w15
        have HB15 : Hid (Below W1.heap.size W1 w15) := by unfold Hid; rw [← hW15]; exact HB114.out.alloc HB114.out.size _
        have HK15 : Hid (Blk w15 w14.heap.size 26 #[.int .i64 t.kind, .int .i64 t.num, .string t.text, .slice a14 t.list.length c14]) := by unfold Hid; rw [← hW15]; exact Blk.new w14 26 _
        have HK15x : Hid (Blk w15 w.heap.size 26 #[.int .i64 t.kind, .int .i64 t.num, .string t.text, .slice a t.list.length c]) := by unfold Hid; rw [← hW15]; exact HK14x.out.alloc _
        have HY15 : Hid (At w15 (· < w15.heap.size) t a6 c6) := by unfold Hid; rw [← hW15]; exact at_alloc HA14.out _
        have HZ15 : Hid (At w15 (· < w15.heap.size) t a14 c14) := by unfold Hid; rw [← hW15]; exact at_alloc HZ14.out _
        have hs15 : w15.heap.size = w14.heap.size + 1 := by rw [← hW15]; simp
        clear hW15 hfz14 hx0 hx1 hx2 hx3 hy0 hy1 hy2 hy3
        refine (HSM.out a c a6 c6 w15 (at_later HA.out HB15.out) HY15.out).mono ?_
        rintro e w16 ⟨br, rfl, hbr, hb16⟩
        have hbt : br = true := hbr.2 (by trivial)
        subst hbt
        have HB16 : Hid (Below W1.heap.size W1 w16) := HB15.out.trans (hb16.mono HB15.out.size)
        have hk16 := HK15.out.below hb16 (by omega)
        have hk16x := HK15x.out.below hb16 (by omega)
        have hs16 := hb16.size
        have hx0 := hk16x.c0
        have hx1 := hk16x.c1
        have hx2 := hk16x.c2
        have hx3 := hk16x.c3
        have hz0 := hk16.c0
        have hz1 := hk16.c1
        have hz2 := hk16.c2
        have hz3 := hk16.c3
        have HZ16 : Hid (At w16 (· < w16.heap.size) t a14 c14) := at_later HZ15.out hb16
        have hgx : w.heap.size < w16.heap.size := by omega
        have hgz : w14.heap.size < w16.heap.size := by omega
        clear hb16 hbr hk16 hk16x
        go_wp2_with fail
        refine (HSM.out a14 c14 a c w16 HZ16.out (at_later HA.out HB16.out)).mono ?_
        rintro e w17 ⟨br, rfl, hbr, hb17⟩
        have hbt : br = true := hbr.2 (by trivial)
        subst hbt
        have HBX2 : Hid (Below W1.heap.size W1 w17) := HB16.out.trans (hb17.mono HB16.out.size)
        clear hb17 hbr
        go_wp2_with fail
        refine (HDB.out w17 HBX2.out).mono ?_
        rintro e w9 ⟨u, a9, c9, r9, rfl, hA9, hb9, hd9⟩
        have HB9 : Hid (Below W1.heap.size W1 w9) := HBX2.out.trans (hb9.mono HBX2.out.size)
        have HA9 : Hid (At w9 (· < w9.heap.size) u a9 c9) := hA9.imp fun b hb => hb.2
        have hfz9 : ∀ (C : Array Value) (i : Nat), (w9.alloc (.cells C 26)).frozen? ⟨w9.heap.size, i, none⟩ = false := fun C i => World.frozen?_alloc_at C 26 _ i rfl
        clear hA9 hb9
        rcases hd9 with ⟨rfl, hd1, hd2, hd3⟩ | ⟨rfl, rfl, _⟩
        · have HEU := Lib.hid (HENU.out u a9 c9 hd1 hd3 hl2)
          unfold val at HEU ⊢
          clear hd1 hd2 hd3
          go_wp2_with fail
          try case isTrue => exact absurd ‹World.frozen? _ _ = true› (by rw [hfz9]; decide)
          refine (HEU.out _ (at_alloc HA9.out _)).mono ?_
          rintro e w10 ⟨v10, rfl, hO10, hb10⟩
          obtain ⟨A10, c10, rfl, _, _, hBy10⟩ := hO10.form_ HLN.out
          have HB10 : Hid (Below W1.heap.size W1 w10) := (HB9.out.alloc HB9.out.size _).trans (hb10.mono (by have := HB9.out.size; simp; omega))
          have HS10 := Lib.hid (HSB.out w10 A10 n1 c10 hBy10 HB10.out)
          clear hO10 hb10 hBy10
          go_wp2_with fail
          refine HS10.out.mono ?_
          rintro e w11 ⟨rfl, rfl⟩
          go_wp2_with fail
          refine (HKN.out _).mono ?_
          rintro e w12 ⟨rfl, hb12⟩
          have HB12 : Hid (Below w.heap.size w w12) := HB1.out.trans ((HB10.out.trans (hb12.mono HB10.out.size)).mono HB1.out.size)
          clear hb12
          go_wp2_with fail
          go_ret
          exact ⟨rfl, HB12.out⟩
        · unfold val
          go_wp2_with fail
          try case isTrue => exact absurd ‹World.frozen? _ _ = true› (by rw [hfz9]; decide)
          refine (HKN.out _).mono ?_
          rintro e w12 ⟨rfl, hb12⟩
          have HB12 : Hid (Below w.heap.size w w12) := HB1.out.trans (((HB9.out.alloc HB9.out.size _).trans (hb12.mono (by have := HB9.out.size; simp; omega))).mono HB1.out.size)
          clear hb12
          go_wp2_with fail
          go_ret
          exact ⟨rfl, HB12.out⟩
    · go_wp2_with fail
      refine (HTX2.out w2 HB2.out).mono ?_
      rintro e w3 ⟨⟨le, rfl⟩, hb3⟩
      have HB3 : Hid (Below W1.heap.size W1 w3) := HB2.out.trans (hb3.mono hs2)
      have hk3 := HK2.out.below hb3 hg2
      have HK3 := Lib.hid hk3
      have hs3 := hb3.size
      have hc0 := hk3.c0
      have hc1 := hk3.c1
      have hc2 := hk3.c2
      have hc3 := hk3.c3
      have hg3 : w.heap.size < w3.heap.size := by omega
      clear hb3 hk3
      by_cases hle : (1048576 : Int) < le
      · go_wp2_with fail
        refine (HKN.out _).mono ?_
        rintro e w4 ⟨rfl, hb4⟩
        have HB4 : Hid (Below w.heap.size w w4) := HB1.out.trans ((HB3.out.trans (hb4.mono HB3.out.size)).mono HB1.out.size)
        clear hb4
        go_wp2_with fail
        go_ret
        exact ⟨rfl, HB4.out⟩
      have hle' : le ≤ 1048576 := by omega
      by_cases hl : 2000 < n1
      · have hlz : (2000 : Int) < (n1 : Int) := by omega
        go_wp2_with fail
        refine (HKN.out _).mono ?_
        rintro e w4 ⟨rfl, hb4⟩
        have HB4 : Hid (Below w.heap.size w w4) := HB1.out.trans ((HB3.out.trans (hb4.mono HB3.out.size)).mono HB1.out.size)
        clear hb4
        go_wp2_with fail
        go_ret
        exact ⟨rfl, HB4.out⟩
      · have hlz : ¬ ((2000 : Int) < (n1 : Int)) := by omega
        have hl2 : n1 ≤ 2000 := by omega
        have hl2' : (n1 : Int) ≤ 2000 := by omega
        replace HDB := Lib.hid (HDB.out hl2)
        go_wp2_with fail
        refine (HE3.out hf w3 HB3.out).mono ?_
        rintro e w4 ⟨rfl, hb4⟩
        have HB4 : Hid (Below W1.heap.size W1 w4) := HB3.out.trans (hb4.mono HB3.out.size)
        have hk4 := HK3.out.below hb4 hg3
        have hc04 := hk4.c0
        have hc14 := hk4.c1
        have hc24 := hk4.c2
        have hc34 := hk4.c3
        have hg4 : w.heap.size < w4.heap.size := by have := hb4.size; omega
        clear hb4 hk4
        go_wp2_with fail
        refine (HY1.out hf w4 HB4.out).mono ?_
        rintro e w5 ⟨rfl, hb5⟩
        have HBX2 : Hid (Below W1.heap.size W1 w5) := HB4.out.trans (hb5.mono HB4.out.size)
        clear hb5
        go_wp2_with fail
        refine (HDB.out w5 HBX2.out).mono ?_
        rintro e w9 ⟨u, a9, c9, r9, rfl, hA9, hb9, hd9⟩
        have HB9 : Hid (Below W1.heap.size W1 w9) := HBX2.out.trans (hb9.mono HBX2.out.size)
        have HA9 : Hid (At w9 (· < w9.heap.size) u a9 c9) := hA9.imp fun b hb => hb.2
        have hfz9 : ∀ (C : Array Value) (i : Nat), (w9.alloc (.cells C 26)).frozen? ⟨w9.heap.size, i, none⟩ = false := fun C i => World.frozen?_alloc_at C 26 _ i rfl
        clear hA9 hb9
        rcases hd9 with ⟨rfl, hd1, hd2, hd3⟩ | ⟨rfl, rfl, _⟩
        · have HEU := Lib.hid (HENU.out u a9 c9 hd1 hd3 hl2)
          unfold val at HEU ⊢
          clear hd1 hd2 hd3
          go_wp2_with fail
          try case isTrue => exact absurd ‹World.frozen? _ _ = true› (by rw [hfz9]; decide)
          refine (HEU.out _ (at_alloc HA9.out _)).mono ?_
          rintro e w10 ⟨v10, rfl, hO10, hb10⟩
          obtain ⟨A10, c10, rfl, _, _, hBy10⟩ := hO10.form_ HLN.out
          have HB10 : Hid (Below W1.heap.size W1 w10) := (HB9.out.alloc HB9.out.size _).trans (hb10.mono (by have := HB9.out.size; simp; omega))
          have HS10 := Lib.hid (HSB.out w10 A10 n1 c10 hBy10 HB10.out)
          clear hO10 hb10 hBy10
          go_wp2_with fail
          refine HS10.out.mono ?_
          rintro e w11 ⟨rfl, rfl⟩
          go_wp2_with fail
          refine (HKN.out _).mono ?_
          rintro e w12 ⟨rfl, hb12⟩
          have HB12 : Hid (Below w.heap.size w w12) := HB1.out.trans ((HB10.out.trans (hb12.mono HB10.out.size)).mono HB1.out.size)
          clear hb12
          go_wp2_with fail
          go_ret
          exact ⟨rfl, HB12.out⟩
        · unfold val
          go_wp2_with fail
          try case isTrue => exact absurd ‹World.frozen? _ _ = true› (by rw [hfz9]; decide)
          refine (HKN.out _).mono ?_
          rintro e w12 ⟨rfl, hb12⟩
          have HB12 : Hid (Below w.heap.size w w12) := HB1.out.trans (((HB9.out.alloc HB9.out.size _).trans (hb12.mono (by have := HB9.out.size; simp; omega))).mono HB1.out.size)
          clear hb12
          go_wp2_with fail
          go_ret
          exact ⟨rfl, HB12.out⟩
end Go.Proofs.Ytkmikpmbnfcbpaa
