/- Contracts of the two At. -/
import Derived.Test.YtkmikpmbnfcbpaaGx
namespace Go.Proofs.Ytkmikpmbnfcbpaa
open Go.RowKit Go.Lib
set_option linter.unusedVariables false
open Tree Anyv

def nul : Tree := .mk 0 0 ⟨#[]⟩ []
/-- What stands at a path, and why nothing does. -/
def atE (t : Tree) : List Int → Tree × Int
  | [] => (t, 0)
  | i :: p => if t.kind ≠ 3 then (nul, 20) else if h : 0 ≤ i ∧ i.toNat < t.list.length then atE (t.list[i.toNat]'h.2) p else (nul, 4)
def RetAt (w : World) (r : Tree × Int) (e : Ending) (w' : World) : Prop := ∃ a c, e = .returned (.tuple #[val r.1 a c, .int .i64 r.2]) ∧ At w' (· < w'.heap.size) r.1 a c ∧ Below w.heap.size w w'
theorem res_cell_tmp {fn : Func} {p q : Tmp} (h : fn.results = #[.cell p 26, .tmp q]) {tmps : Array Value} {W : World} {g : Nat} {a b c d e : Value} (hb : Blk W g 26 #[a, b, c, d]) (hp : tmps.getD p undef = .pointer (some ⟨g, 0, none⟩))
    (hq : tmps.getD q undef = e) : (results fn tmps).run Try.prog W = .ok (.tuple #[.agg #[a, b, c, d], e]) W := by
  have hl : (loadVar 26 ⟨g, 0, none⟩).run Try.prog W = .ok (.agg #[a, b, c, d]) W := run_loadVar_row (P := Try.prog) W g 26 26 #[a, b, c, d] (0, 0) _ hb Try.underlying26 rfl (by kernel_rfl)
  have e1 : (results fn tmps).run Try.prog W = ((asAddr (tmps.getD p undef)).run Try.prog W).andThen fun a w₁ => ((loadVar 26 a).run Try.prog w₁).andThen fun v w₂ => .ok (.tuple #[v, tmps.getD q undef]) w₂ := by
    simp only [results, h]
    simp [Sem.run_bind, Result.andThen]
  rw [e1, hp, hq]
  simp [Result.andThen, asAddr, hl]
theorem at_nul (w : World) : At w (· < w.heap.size) nul none 0 := by
  simp only [nul, At]; exact ⟨Nat.le_refl _, by omega, .inl (by trivial)⟩
theorem retAt_nul {w w' : World} {r : Tree × Int} {e : Int} (h : r = (nul, e)) (hb : Below w.heap.size w w') : RetAt w r (.returned (.tuple #[.agg #[.int .i64 0, .int .i64 0, .string ⟨#[]⟩, .slice none 0 0], .int .i64 e])) w' := by
  subst h; exact ⟨none, 0, rfl, at_nul w', hb⟩
theorem count_get {l : List Tree} {i : Nat} (h : i < l.length) : l[i].count ≤ countL l := by
  have h1 := countL_take h
  have h2 := countL_le l (i + 1)
  omega
theorem Nums.get {w : World} {B n : Nat} {a : Option Addr} {zs : List Int} (h : Nums w B a n zs) {q : Nat} (hq : q < n) : ∃ b off, a = some ⟨b, off, none⟩ ∧ b < B ∧ w.cell? ⟨b, off + q, none⟩ = some (.int .i64 (zs.getD q 0)) := by
  rcases h.2 with h0 | ⟨b, off, e, hb, hc⟩
  · omega
  · exact ⟨b, off, e, hb, hc q hq⟩
theorem drop_get {zs : List Int} {q : Nat} (h : q < zs.length) : zs.drop q = zs.getD q 0 :: zs.drop (q + 1) := by
  rw [getD_eq h]; exact List.drop_eq_getElem_cons h

set_option maxHeartbeats 4000000 in
theorem at31_calls (t : Tree) (a : Option Addr) (c : Nat) (ap : Option Addr) (n cp : Nat) (zs : List Int) (w : World) (r : Tree × Int) (hA : At w (· < w.heap.size) t a c) (hN : t.count ≤ 1000000000) (hZ : Nums w w.heap.size ap n zs) (hn : n ≤ 9223372036854775807)
    (h : (Fits t 20 ∧ r = atE t zs) ∨ (¬ Fits t 20 ∧ r = (nul, 2))) :
    Calls Try.prog 31 #[val t a c, .slice ap n cp] w (RetAt w r) := by
  have HL := Lib.hid hZ.1
  have hgen : ∀ C D : Array Value, Below w.heap.size w ((w.alloc (.cells C 26)).alloc (.cells D 26)) := fun C D => ((Below.refl _ _).alloc (Nat.le_refl _) _).alloc (by simp) _
  have hbk0 : Blk ((w.alloc (.cells #[.int .i64 t.kind, .int .i64 t.num, .string t.text, .slice a t.list.length c] 26)).alloc (.cells #[.int .i64 0, .int .i64 0, .string ⟨#[]⟩, .slice none 0 0] 26)) w.heap.size 26 #[.int .i64 t.kind, .int .i64 t.num, .string t.text, .slice a t.list.length c] := boxed.alloc _
  have hbk1 : Blk ((w.alloc (.cells #[.int .i64 t.kind, .int .i64 t.num, .string t.text, .slice a t.list.length c] 26)).alloc (.cells #[.int .i64 0, .int .i64 0, .string ⟨#[]⟩, .slice none 0 0] 26)) (w.heap.size + 1) 26 #[.int .i64 0, .int .i64 0, .string ⟨#[]⟩, .slice none 0 0] := by rw [← size_alloc w]; exact Blk.new _ 26 _
  generalize hW : ((w.alloc (.cells #[.int .i64 t.kind, .int .i64 t.num, .string t.text, .slice a t.list.length c] 26)).alloc (.cells #[.int .i64 0, .int .i64 0, .string ⟨#[]⟩, .slice none 0 0] 26)) = W1 at hbk0 hbk1
  have hb1 : Below w.heap.size w W1 := by rw [← hW]; exact hgen _ _
  have hA1 : At W1 (· < W1.heap.size) t a c := at_later hA hb1
  have hs1 : W1.heap.size = w.heap.size + 2 := by rw [← hW]; simp
  have HWW := Lib.hid hW
  have HB1 := Lib.hid hb1
  have HK0 := Lib.hid hbk0
  have HK1 := Lib.hid hbk1
  have HA := Lib.hid hA
  have HZ := Lib.hid hZ
  have HCK : Hid (∀ r, (Fits t 20 ∧ r = 0) ∨ (¬ Fits t 20 ∧ r = 2) → ∀ W, Below W1.heap.size W1 W → Calls Try.prog 24 #[val t a c] W (Ret1 W (.int .i64 r))) := fun r h W hb => check24 t a c W r (at_later hA1 hb) h
  unfold val at HCK ⊢
  clear hA hA1 hb1 hbk0 hbk1 hW hZ hgen
  by_cases hf : Fits t 20
  · have hr : r = atE t zs := by rcases h with h | h; exact h.2; exact absurd hf h.1
    have HR := Lib.hid hr
    have HCT : Hid (t.count ≤ 20000) := hf.2.2
    have HC0 := Lib.hid (HCK.out 0 (.inl ⟨hf, rfl⟩))
    clear h hr hf
    go_enter Try.func31, Try.ntmps31
    go_wp2_with fail
    go_step3
    go_wp2_with fail
    rw [HWW.out]
    refine (HC0.out W1 (Below.refl _ _)).mono ?_
    rintro e w2 ⟨rfl, hb2⟩
    have hs2 := hb2.size
    have HB2 : Hid (Below w.heap.size w w2) := HB1.out.trans (hb2.mono (by omega))
    have HK02 := Lib.hid (HK0.out.below hb2 (by omega))
    have HK12 := Lib.hid (HK1.out.below hb2 (by omega))
    clear hb2
    go_wp2_with fail
    go_step3
    go_wp2_with fail
    go_loopw [7, 18] (fun ee i wr => ∃ (q : Nat) (u : Tree) (ua : Option Addr) (uc : Nat), q ≤ n ∧ ee = .int .i64 0 ∧ i = .int .i64 (q : Nat) ∧ atE t zs = atE u (zs.drop q) ∧ u.count ≤ 20000 ∧ At w (· < w.heap.size) u ua uc ∧ Blk wr w.heap.size 26 #[.int .i64 u.kind, .int .i64 u.num, .string u.text, .slice ua u.list.length uc] ∧
      Blk wr (w.heap.size + 1) 26 #[.int .i64 0, .int .i64 0, .string ⟨#[]⟩, .slice none 0 0] ∧ Below w.heap.size w wr) (fun _ i _ => n - (intOf i).toNat)
    case atStart => exact ⟨0, t, a, c, Nat.zero_le _, rfl, rfl, rfl, HCT.out, HA.out, HK02.out, HK12.out, HB2.out⟩
    case round =>
      obtain ⟨q, u, ua, uc, hq, rfl, rfl, hat, huc, hU, hk0, hk1, hbl⟩ := hrel
      have HAT := Lib.hid hat
      have HU := Lib.hid hU
      have HX0 := Lib.hid hk0
      have HX1 := Lib.hid hk1
      have HBW := Lib.hid hbl
      have hsz := hbl.size
      have hg0 := hk0.lt
      have hg1 := hk1.lt
      have hc0 := hk0.c0
      have hc1 := hk0.c1
      have hc2 := hk0.c2
      have hc3 := hk0.c3
      have hf0 := hk0.frozen 0
      have hf1 := hk0.frozen 1
      have hf2 := hk0.frozen 2
      have hf3 := hk0.frozen 3
      have hd0 := hk1.c0
      have hd1 := hk1.c1
      have hd2 := hk1.c2
      have hd3 := hk1.c3
      have he0 := hk1.frozen 0
      have he1 := hk1.frozen 1
      have he2 := hk1.frozen 2
      have he3 := hk1.frozen 3
      rw [at_eq] at hU
      obtain ⟨hu1, hu2, hul⟩ := hU
      obtain ⟨m, hm⟩ : ∃ m, u.list.length = m := ⟨_, rfl⟩
      have HM := Lib.hid hm
      rw [hm] at hc3 hu1
      have hmI : m ≤ 20000 := by have := length_countL u.list; have := count_eq u; omega
      have HUC := Lib.hid huc
      clear hat hk0 hk1 hbl huc hm
      by_cases hlt : q < n
      · obtain ⟨pb, poff, rfl, hpb, hpc⟩ := HZ.out.get hlt
        have hcp := (HBW.out.cell (p := ⟨pb, poff + q, none⟩) hpb).trans hpc
        have hz := drop_get (zs := zs) (q := q) (by rw [HL.out]; exact hlt)
        generalize zs.getD q 0 = z at hcp hz
        have HDZ := Lib.hid hz
        clear hpc hz
        by_cases h3 : u.kind = 3
        · by_cases hz0 : z < 0
          · have HE : Hid (r = (nul, 4)) := by unfold Hid; rw [HR.out, HAT.out, HDZ.out]; simp only [atE]; rw [if_neg (by simp [h3]), dif_neg (by omega)]
            have hk3 : (u.kind != 3) = false := by simp [h3]
            clear h3
            go_wp2_with fail
            try rw [Exit.noGoto_ret]
            try simp only [Exit.inBlock, Exit.then]
            refine bodyPost_ret (res_cell_tmp rfl (Blk.put4 HX1.out) rfl rfl) rfl ?_
            exact retAt_nul HE.out (Below.put4_ HBW.out (by omega))
          · by_cases hzm : z.toNat < m
            · -- one step down
              obtain ⟨j, rfl⟩ : ∃ j : Nat, z = (j : Int) := ⟨z.toNat, by omega⟩
              have hjm : j < m := by simpa using hzm
              have hjl : j < u.list.length := by rw [HM.out]; exact hjm
              have hk3 : (u.kind != 3) = false := by simp [h3]
              have HST : Hid (atE t zs = atE (u.list[j]) (zs.drop (q + 1))) := by
                unfold Hid; rw [HAT.out, HDZ.out]
                conv => lhs; unfold atE
                rw [if_neg (by simp [h3]), dif_pos ⟨by omega, by simpa using hjl⟩]
                rfl
              rcases hul with h0 | ⟨b, off, rfl, hb, hAL⟩
              · rw [h0] at hjl; simp at hjl
              obtain ⟨x, cx, e0, e1, e2, e3, hAt⟩ := AtL.get u.list b off hAL j hjl
              have cell : ∀ o v, w.cell? ⟨b, o, none⟩ = some v → wr.cell? ⟨b, o, none⟩ = some v := fun o v h => (HBW.out.cell (p := ⟨b, o, none⟩) hb).trans h
              have f0 := cell _ _ e0
              have f1 := cell _ _ e1
              have f2 := cell _ _ e2
              have f3 := cell _ _ e3
              have HAt := Lib.hid hAt
              have hcu : Hid (u.list[j].count ≤ 20000) := by have := count_get hjl; have := count_eq u; have := HUC.out; unfold Hid; omega
              have hnge : ¬ ((m : Int) ≤ (j : Int)) := by omega
              have hnlt : ¬ ((j : Int) < 0) := by omega
              clear hAL e0 e1 e2 e3 hAt cell h3 hz0 hzm HDZ HAT
              go_wp2_with fail
              all_goals go_roundw
              all_goals first
                | (exact ⟨q + 1, u.list[j], x, cx, by omega, rfl, by go_num, HST.out, hcu.out, HAt.out, (Blk.put4 HX0.out), (HX1.out.keep_ (put4_block (by omega))), (Below.put4_ HBW.out (Nat.le_refl _))⟩)
                | (simp [intOf]; omega)
            · have HE : Hid (r = (nul, 4)) := by unfold Hid; rw [HR.out, HAT.out, HDZ.out]; simp only [atE]; rw [if_neg (by simp [h3]), dif_neg (by rw [HM.out]; omega)]
              have hk3 : (u.kind != 3) = false := by simp [h3]
              have hge : (m : Int) ≤ z := by omega
              clear h3
              go_wp2_with fail
              try rw [Exit.noGoto_ret]
              try simp only [Exit.inBlock, Exit.then]
              refine bodyPost_ret (res_cell_tmp rfl (Blk.put4 HX1.out) rfl rfl) rfl ?_
              exact retAt_nul HE.out (Below.put4_ HBW.out (by omega))
        · have HE : Hid (r = (nul, 20)) := by unfold Hid; rw [HR.out, HAT.out, HDZ.out]; simp only [atE]; rw [if_pos h3]
          have hk3 : (u.kind != 3) = true := by simpa using h3
          clear h3
          go_wp2_with fail
          try rw [Exit.noGoto_ret]
          try simp only [Exit.inBlock, Exit.then]
          refine bodyPost_ret (res_cell_tmp rfl (Blk.put4 HX1.out) rfl rfl) rfl ?_
          exact retAt_nul HE.out (Below.put4_ HBW.out (by omega))
      · obtain rfl : q = n := by omega
        have HE : Hid (r = (u, 0)) := by unfold Hid; rw [HR.out, HAT.out, List.drop_eq_nil_of_le (by rw [HL.out]; exact Nat.le_refl _)]; rfl
        have HCP : Hid (Calls Try.prog 30 #[.agg #[.int .i64 u.kind, .int .i64 u.num, .string u.text, .slice ua u.list.length uc]] wr (RetO wr u)) := copy_calls 1000000000 u ua uc wr (by have := HUC.out; omega) (Nat.le_refl _) ((HU.out.below HBW.out).more hsz)
        unfold RetO val at HCP
        rw [HM.out] at HCP
        go_wp2_with fail
        refine HCP.out.mono ?_
        rintro e w7 ⟨a7, c7, rfl, hA7, hb7⟩
        have hk7 := HX1.out.below hb7 hg1
        have HK7 := Lib.hid hk7
        have HA7 := Lib.hid hA7
        have HB7 : Hid (Below w.heap.size w w7) := HBW.out.trans (hb7.mono hsz)
        have hd0 := hk7.c0
        have hd1 := hk7.c1
        have hd2 := hk7.c2
        have hd3 := hk7.c3
        have he0 := hk7.frozen 0
        have he1 := hk7.frozen 1
        have he2 := hk7.frozen 2
        have he3 := hk7.frozen 3
        clear hk7 hA7 hb7
        go_wp2_with fail
        try rw [Exit.noGoto_ret]
        try simp only [Exit.inBlock, Exit.then]
        refine bodyPost_ret (res_cell_tmp (e := .int .i64 0) rfl (Blk.put4 HK7.out) rfl rfl) rfl ?_
        rw [HE.out]
        refine ⟨a7, c7, by simp only [val]; rw [HM.out], ?_, Below.put4_ HB7.out (by omega)⟩
        refine (HA7.out.keep (w' := put4 w7 (w.heap.size + 1) _ _ _ _) fun b hb => put4_block (by have := hb.1; omega)).imp fun b hb => ?_
        exact Nat.lt_of_lt_of_eq hb.2 put4_size.symm
  · have hr : r = (nul, 2) := by rcases h with h | h; exact absurd h.1 hf; exact h.2
    have HR := Lib.hid hr
    have HC0 := Lib.hid (HCK.out 2 (.inr ⟨hf, rfl⟩))
    clear h hr hf
    go_enter Try.func31, Try.ntmps31
    go_wp2_with fail
    go_step3
    go_wp2_with fail
    rw [HWW.out]
    refine (HC0.out W1 (Below.refl _ _)).mono ?_
    rintro e w2 ⟨rfl, hb2⟩
    have hs2 := hb2.size
    have HB2 : Hid (Below w.heap.size w w2) := HB1.out.trans (hb2.mono (by omega))
    have hk1 := HK1.out.below hb2 (by omega)
    have HX1 := Lib.hid hk1
    have hd0 := hk1.c0
    have hd1 := hk1.c1
    have hd2 := hk1.c2
    have hd3 := hk1.c3
    have he0 := hk1.frozen 0
    have he1 := hk1.frozen 1
    have he2 := hk1.frozen 2
    have he3 := hk1.frozen 3
    clear hb2 hk1
    go_wp2_with fail
    try rw [Exit.noGoto_ret]
    try simp only [Exit.inBlock, Exit.then]
    refine bodyPost_ret (res_cell_tmp rfl (Blk.put4 HX1.out) rfl rfl) rfl ?_
    exact retAt_nul HR.out (Below.put4_ HB2.out (by omega))

set_option maxHeartbeats 4000000 in
theorem refAt32_calls (t : Tree) (a : Option Addr) (c : Nat) (ap : Option Addr) (n cp : Nat) (zs : List Int) (w : World) (r : Tree × Int) (hA : At w (· < w.heap.size) t a c) (hN : t.count ≤ 1000000000) (hZ : Nums w w.heap.size ap n zs) (hn : n ≤ 9223372036854775807)
    (h : (Fits t 20 ∧ r = atE t zs) ∨ (¬ Fits t 20 ∧ r = (nul, 2))) :
    Calls Try.prog 32 #[val t a c, .slice ap n cp] w (RetAt w r) := by
  have HL := Lib.hid hZ.1
  have hgen : ∀ C D : Array Value, Below w.heap.size w ((w.alloc (.cells C 26)).alloc (.cells D 26)) := fun C D => ((Below.refl _ _).alloc (Nat.le_refl _) _).alloc (by simp) _
  have hbk0 : Blk ((w.alloc (.cells #[.int .i64 t.kind, .int .i64 t.num, .string t.text, .slice a t.list.length c] 26)).alloc (.cells #[.int .i64 0, .int .i64 0, .string ⟨#[]⟩, .slice none 0 0] 26)) w.heap.size 26 #[.int .i64 t.kind, .int .i64 t.num, .string t.text, .slice a t.list.length c] := boxed.alloc _
  have hbk1 : Blk ((w.alloc (.cells #[.int .i64 t.kind, .int .i64 t.num, .string t.text, .slice a t.list.length c] 26)).alloc (.cells #[.int .i64 0, .int .i64 0, .string ⟨#[]⟩, .slice none 0 0] 26)) (w.heap.size + 1) 26 #[.int .i64 0, .int .i64 0, .string ⟨#[]⟩, .slice none 0 0] := by rw [← size_alloc w]; exact Blk.new _ 26 _
  generalize hW : ((w.alloc (.cells #[.int .i64 t.kind, .int .i64 t.num, .string t.text, .slice a t.list.length c] 26)).alloc (.cells #[.int .i64 0, .int .i64 0, .string ⟨#[]⟩, .slice none 0 0] 26)) = W1 at hbk0 hbk1
  have hb1 : Below w.heap.size w W1 := by rw [← hW]; exact hgen _ _
  have hA1 : At W1 (· < W1.heap.size) t a c := at_later hA hb1
  have hs1 : W1.heap.size = w.heap.size + 2 := by rw [← hW]; simp
  have HWW := Lib.hid hW
  have HB1 := Lib.hid hb1
  have HK0 := Lib.hid hbk0
  have HK1 := Lib.hid hbk1
  have HA := Lib.hid hA
  have HZ := Lib.hid hZ
  have HCK : Hid (∀ r, (Fits t 20 ∧ r = 0) ∨ (¬ Fits t 20 ∧ r = 2) → ∀ W, Below W1.heap.size W1 W → Calls Try.prog 25 #[val t a c] W (Ret1 W (.int .i64 r))) := fun r h W hb => refCheck25 t a c W r (at_later hA1 hb) hN h
  unfold val at HCK ⊢
  clear hA hA1 hb1 hbk0 hbk1 hW hZ hgen
  by_cases hf : Fits t 20
  · have hr : r = atE t zs := by rcases h with h | h; exact h.2; exact absurd hf h.1
    have HR := Lib.hid hr
    have HCT : Hid (t.count ≤ 20000) := hf.2.2
    have HC0 := Lib.hid (HCK.out 0 (.inl ⟨hf, rfl⟩))
    clear h hr hf
    go_enter Try.func32, Try.ntmps32
    go_wp2_with fail
    rw [HWW.out]
    refine (HC0.out W1 (Below.refl _ _)).mono ?_
    rintro e w2 ⟨rfl, hb2⟩
    have hs2 := hb2.size
    have HB2 : Hid (Below w.heap.size w w2) := HB1.out.trans (hb2.mono (by omega))
    have HK02 := Lib.hid (HK0.out.below hb2 (by omega))
    have HK12 := Lib.hid (HK1.out.below hb2 (by omega))
    clear hb2
    go_wp2_with fail
    go_loopw [6] (fun i wr => ∃ (q : Nat) (u : Tree) (ua : Option Addr) (uc : Nat), q ≤ n ∧ i = .int .i64 (q : Nat) ∧ atE t zs = atE u (zs.drop q) ∧ u.count ≤ 20000 ∧ At w (· < w.heap.size) u ua uc ∧ Blk wr w.heap.size 26 #[.int .i64 u.kind, .int .i64 u.num, .string u.text, .slice ua u.list.length uc] ∧
      Blk wr (w.heap.size + 1) 26 #[.int .i64 0, .int .i64 0, .string ⟨#[]⟩, .slice none 0 0] ∧ Below w.heap.size w wr) (fun i _ => n - (intOf i).toNat)
    case atStart => exact ⟨0, t, a, c, Nat.zero_le _, rfl, rfl, HCT.out, HA.out, HK02.out, HK12.out, HB2.out⟩
    case round =>
      obtain ⟨q, u, ua, uc, hq, rfl, hat, huc, hU, hk0, hk1, hbl⟩ := hrel
      have HAT := Lib.hid hat
      have HU := Lib.hid hU
      have HX0 := Lib.hid hk0
      have HX1 := Lib.hid hk1
      have HBW := Lib.hid hbl
      have hsz := hbl.size
      have hg0 := hk0.lt
      have hg1 := hk1.lt
      have hc0 := hk0.c0
      have hc1 := hk0.c1
      have hc2 := hk0.c2
      have hc3 := hk0.c3
      have hf0 := hk0.frozen 0
      have hf1 := hk0.frozen 1
      have hf2 := hk0.frozen 2
      have hf3 := hk0.frozen 3
      have hd0 := hk1.c0
      have hd1 := hk1.c1
      have hd2 := hk1.c2
      have hd3 := hk1.c3
      have he0 := hk1.frozen 0
      have he1 := hk1.frozen 1
      have he2 := hk1.frozen 2
      have he3 := hk1.frozen 3
      rw [at_eq] at hU
      obtain ⟨hu1, hu2, hul⟩ := hU
      obtain ⟨m, hm⟩ : ∃ m, u.list.length = m := ⟨_, rfl⟩
      have HM := Lib.hid hm
      rw [hm] at hc3 hu1
      have hmI : m ≤ 20000 := by have := length_countL u.list; have := count_eq u; omega
      have HUC := Lib.hid huc
      clear hat hk0 hk1 hbl huc hm
      by_cases hlt : q < n
      · obtain ⟨pb, poff, rfl, hpb, hpc⟩ := HZ.out.get hlt
        have hcp := (HBW.out.cell (p := ⟨pb, poff + q, none⟩) hpb).trans hpc
        have hz := drop_get (zs := zs) (q := q) (by rw [HL.out]; exact hlt)
        generalize zs.getD q 0 = z at hcp hz
        have HDZ := Lib.hid hz
        clear hpc hz
        by_cases h3 : u.kind = 3
        · by_cases hz0 : z < 0
          · have HE : Hid (r = (nul, 4)) := by unfold Hid; rw [HR.out, HAT.out, HDZ.out]; simp only [atE]; rw [if_neg (by simp [h3]), dif_neg (by omega)]
            have hk3 : (u.kind != 3) = false := by simp [h3]
            clear h3
            go_wp2_with fail
            have hd : decide ((z) < 0) = true := by first | (simp; done) | (simp; omega)
            go_quiet (fail)
            all_goals go_wp2_with fail
            all_goals try rw [Exit.noGoto_ret]
            all_goals try simp only [Exit.inBlock, Exit.then]
            all_goals refine bodyPost_ret (res_cell_tmp rfl (Blk.put4 (HX1.out.drewN _)) rfl rfl) rfl ?_
            all_goals exact retAt_nul HE.out (Below.put4_ (below_drewN HBW.out _) (by omega))
          · by_cases hzm : z.toNat < m
            · -- one step down
              obtain ⟨j, rfl⟩ : ∃ j : Nat, z = (j : Int) := ⟨z.toNat, by omega⟩
              have hjm : j < m := by simpa using hzm
              have hjl : j < u.list.length := by rw [HM.out]; exact hjm
              have hk3 : (u.kind != 3) = false := by simp [h3]
              have HST : Hid (atE t zs = atE (u.list[j]) (zs.drop (q + 1))) := by
                unfold Hid; rw [HAT.out, HDZ.out]
                conv => lhs; unfold atE
                rw [if_neg (by simp [h3]), dif_pos ⟨by omega, by simpa using hjl⟩]
                rfl
              rcases hul with h0 | ⟨b, off, rfl, hb, hAL⟩
              · rw [h0] at hjl; simp at hjl
              obtain ⟨x, cx, e0, e1, e2, e3, hAt⟩ := AtL.get u.list b off hAL j hjl
              have cell : ∀ o v, w.cell? ⟨b, o, none⟩ = some v → wr.cell? ⟨b, o, none⟩ = some v := fun o v h => (HBW.out.cell (p := ⟨b, o, none⟩) hb).trans h
              have f0 := cell _ _ e0
              have f1 := cell _ _ e1
              have f2 := cell _ _ e2
              have f3 := cell _ _ e3
              have HAt := Lib.hid hAt
              have hcu : Hid (u.list[j].count ≤ 20000) := by have := count_get hjl; have := count_eq u; have := HUC.out; unfold Hid; omega
              have hnge : ¬ ((m : Int) ≤ (j : Int)) := by omega
              have hnlt : ¬ ((j : Int) < 0) := by omega
              clear hAL e0 e1 e2 e3 hAt cell h3 hz0 hzm HDZ HAT
              go_wp2_with fail
              have hd : decide (((j : Int)) < 0) = false := by first | (simp; done) | (simp; omega)
              go_quiet (fail)
              all_goals go_wp2_with fail
              go_region
              all_goals go_wp2_with fail

              all_goals go_roundw
              all_goals first
                | (exact ⟨q + 1, u.list[j], x, cx, by omega, by go_num, HST.out, hcu.out, HAt.out, Blk.put4 (HX0.out.drewN _), (HX1.out.drewN _).keep_ (put4_block (by omega)), Below.put4_ (below_drewN HBW.out _) (Nat.le_refl _)⟩)
                | (simp [intOf]; omega)
            · have HE : Hid (r = (nul, 4)) := by unfold Hid; rw [HR.out, HAT.out, HDZ.out]; simp only [atE]; rw [if_neg (by simp [h3]), dif_neg (by rw [HM.out]; omega)]
              have hk3 : (u.kind != 3) = false := by simp [h3]
              have hge : (m : Int) ≤ z := by omega
              clear h3
              go_wp2_with fail
              have hd : decide ((z) < 0) = false := by first | (simp; done) | (simp; omega)
              go_quiet (fail)
              all_goals go_wp2_with fail
              all_goals try rw [Exit.noGoto_ret]
              all_goals try simp only [Exit.inBlock, Exit.then]
              all_goals refine bodyPost_ret (res_cell_tmp rfl (Blk.put4 (HX1.out.drewN _)) rfl rfl) rfl ?_
              all_goals exact retAt_nul HE.out (Below.put4_ (below_drewN HBW.out _) (by omega))
        · have HE : Hid (r = (nul, 20)) := by unfold Hid; rw [HR.out, HAT.out, HDZ.out]; simp only [atE]; rw [if_pos h3]
          have hk3 : (u.kind != 3) = true := by simpa using h3
          clear h3
          go_wp2_with fail
          try rw [Exit.noGoto_ret]
          try simp only [Exit.inBlock, Exit.then]
          refine bodyPost_ret (res_cell_tmp rfl (Blk.put4 HX1.out) rfl rfl) rfl ?_
          exact retAt_nul HE.out (Below.put4_ HBW.out (by omega))
      · obtain rfl : q = n := by omega
        have HE : Hid (r = (u, 0)) := by unfold Hid; rw [HR.out, HAT.out, List.drop_eq_nil_of_le (by rw [HL.out]; exact Nat.le_refl _)]; rfl
        have HUW := Lib.hid (HU.out.below HBW.out)
        go_wp2_with fail
        refine bodyPost_ret (res_cell_tmp (e := .int .i64 0) rfl (Blk.put4 HX1.out) rfl rfl) rfl ?_
        rw [HE.out]
        refine ⟨ua, uc, by simp only [val]; rw [HM.out], ?_, Below.put4_ HBW.out (by omega)⟩
        refine (HUW.out.keep (w' := put4 wr (w.heap.size + 1) _ _ _ _) fun b hb => put4_block (by omega)).imp fun b hb => ?_
        exact Nat.lt_of_lt_of_eq (Nat.lt_of_lt_of_le hb hsz) put4_size.symm
  · have hr : r = (nul, 2) := by rcases h with h | h; exact absurd h.1 hf; exact h.2
    have HR := Lib.hid hr
    have HC0 := Lib.hid (HCK.out 2 (.inr ⟨hf, rfl⟩))
    clear h hr hf
    go_enter Try.func32, Try.ntmps32
    go_wp2_with fail
    rw [HWW.out]
    refine (HC0.out W1 (Below.refl _ _)).mono ?_
    rintro e w2 ⟨rfl, hb2⟩
    have hs2 := hb2.size
    have HB2 : Hid (Below w.heap.size w w2) := HB1.out.trans (hb2.mono (by omega))
    have hk1 := HK1.out.below hb2 (by omega)
    have HX1 := Lib.hid hk1
    have hd0 := hk1.c0
    have hd1 := hk1.c1
    have hd2 := hk1.c2
    have hd3 := hk1.c3
    have he0 := hk1.frozen 0
    have he1 := hk1.frozen 1
    have he2 := hk1.frozen 2
    have he3 := hk1.frozen 3
    clear hb2 hk1
    go_wp2_with fail
    try rw [Exit.noGoto_ret]
    try simp only [Exit.inBlock, Exit.then]
    refine bodyPost_ret (res_cell_tmp rfl (Blk.put4 HX1.out) rfl rfl) rfl ?_
    exact retAt_nul HR.out (Below.put4_ HB2.out (by omega))
end Go.Proofs.Ytkmikpmbnfcbpaa
