/- The bytes of a tree; the contract of encode. -/
import Derived.Test.YtkmikpmbnfcbpaaGg
import Derived.Deep.RegionHeld3
namespace Go.Proofs.Ytkmikpmbnfcbpaa
open Go.RowKit Go.Lib
set_option linter.unusedVariables false
open Tree

/-- int's number as uint64 has it. -/
def u64N (n : Int) : Nat := (n % 18446744073709551616).toNat
mutual
/-- The bytes of a value that may be. -/
def enc : Tree → List UInt8
  | .mk k n s l => UInt8.ofNat k.toNat :: (if k = 1 then be (u64N n) 8 else if k = 2 then be s.size 4 ++ txt s else be l.length 4 ++ encL l)
def encL : List Tree → List UInt8
  | [] => []
  | t :: r => enc t ++ encL r
end
theorem enc_eq (t : Tree) : enc t = UInt8.ofNat t.kind.toNat :: (if t.kind = 1 then be (u64N t.num) 8 else if t.kind = 2 then be t.text.size 4 ++ txt t.text else be t.list.length 4 ++ encL t.list) := by cases t; simp only [enc, kind, num, text, list]; rfl
theorem encL_append (l r : List Tree) : encL (l ++ r) = encL l ++ encL r := by
  induction l with
  | nil => simp [encL]
  | cons t l ih => simp only [List.cons_append, encL, ih, List.append_assoc]
theorem encL_take {l : List Tree} {k : Nat} (h : k < l.length) : encL (l.take (k + 1)) = encL (l.take k) ++ enc l[k] := by
  rw [List.take_succ_eq_append_getElem h, encL_append]; simp [encL]
theorem encL_le (l : List Tree) (k : Nat) : (encL (l.take k)).length ≤ (encL l).length := by
  conv => rhs; rw [← List.take_append_drop k l, encL_append, List.length_append]
  omega

theorem enc_pos (t : Tree) : 1 ≤ (enc t).length := by rw [enc_eq]; simp
theorem encL_len (l : List Tree) : l.length ≤ (encL l).length := by
  induction l with
  | nil => simp
  | cons t l ih => have := enc_pos t; simp only [encL, List.length_append, List.length_cons]; omega

structure EncPost (w : World) (base : Nat) (v : Value) (bs : List UInt8) (e : Ending) (w' : World) : Prop where
  ends : ∃ v', e = .returned v' ∧ OwnB w' base v' bs ∧ (∀ k, v'.ownBlock = some k → v.ownBlock = some k ∨ w.heap.size ≤ k)
  moved : Moved w w' (fun k => v.ownBlock = some k)

theorem wrap_u64 (n : Int) : IntKind.u64.wrap n = (u64N n : Int) := by
  have : IntKind.u64.wrap n = n % 18446744073709551616 := by simp [IntKind.wrap, IntKind.bits, IntKind.signed]
  rw [this]; unfold u64N; omega
theorem u64N_lt (n : Int) : u64N n < 18446744073709551616 := by unfold u64N; omega

/-- A row v of the call's own has become v': only its own block, and new ones, may have been written. -/
structure Track (w : World) (v : Value) (w' : World) (v' : Value) : Prop where
  moved : Moved w w' (fun k => v.ownBlock = some k)
  own : ∀ k, v'.ownBlock = some k → v.ownBlock = some k ∨ w.heap.size ≤ k
theorem Track.refl (w : World) (v : Value) : Track w v w v := ⟨Moved.refl _ _, fun _ h => .inl h⟩
theorem Track.step {w w3 w4 : World} {v v2 v4 : Value} (h : Track w v w3 v2) (hg : w3.grownBy w4 v2.ownBlock) (hat : v4.ownBlock = v2.ownBlock ∨ v4.ownBlock = some w3.heap.size) : Track w v w4 v4 :=
  ⟨h.moved.grown hg (fun k hk hkl => by
    rcases h.own k hk with e | e
    · exact e
    · omega), fun k hk => by
    rcases hat with e | e
    · rw [e] at hk; exact h.own k hk
    · right; rw [e] at hk; injection hk with hk; have := h.moved.size; omega⟩
theorem Track.below {w w2 w3 : World} {v v2 : Value} (h : Track w v w2 v2) (hb : Below w2.heap.size w2 w3) : Track w v w3 v2 :=
  ⟨h.moved.trans (Moved.of_below hb) (fun i _ h => h), h.own⟩
theorem Track.alloc {w w2 : World} {v v2 : Value} (h : Track w v w2 v2) (o : Obj) : Track w v (w2.alloc o) v2 := h.below ((Below.refl _ _).alloc (Nat.le_refl _) _)
theorem Track.drew {w w2 : World} {v v2 : Value} (h : Track w v w2 v2) : Track w v w2.drew v2 := ⟨h.moved.drew, h.own⟩
theorem Track.trans {w w2 w3 : World} {v v2 v3 : Value} (h : Track w v w2 v2) (k : Track w2 v2 w3 v3) : Track w v w3 v3 :=
  ⟨h.moved.trans k.moved (fun i hi hs => by
    rcases h.own i hs with e | e
    · exact e
    · omega), fun j hj => by
    rcases k.own j hj with e | e
    · exact h.own j e
    · right; have := h.moved.size; omega⟩
theorem Track.old {w w2 : World} {v v2 : Value} {base : Nat} (h : Track w v w2 v2) (hv : ∀ k, v.ownBlock = some k → base ≤ k) (hb : base ≤ w.heap.size) : Below base w w2 := h.moved.below hv hb
theorem encPost_of {w w4 : World} {base : Nat} {v v4 : Value} {bs : List UInt8} (h : Track w v w4 v4) (hO : OwnB w4 base v4 bs) : EncPost w base v bs (.returned v4) w4 := ⟨⟨v4, rfl, hO, h.own⟩, h.moved⟩
theorem EncPost.track {w w4 : World} {base : Nat} {v : Value} {bs : List UInt8} {e : Ending} (h : EncPost w base v bs e w4) : ∃ v4, e = .returned v4 ∧ OwnB w4 base v4 bs ∧ Track w v w4 v4 := by
  obtain ⟨v4, h1, h2, h3⟩ := h.ends
  exact ⟨v4, h1, h2, h.moved, h3⟩
theorem ownB_of {w : World} {base n : Nat} {v : Value} {bs : List UInt8} {xs : List Value} (h : w.ownsRow base 5 1 v n xs) (hx : xs = cells bs) (hn : n = bs.length) : OwnB w base v bs := by subst hx hn; exact h

theorem OwnR.below_ {w w' : World} {base : Nat} {e : TypeId} {size n : Nat} {v : Value} {xs : List Value} (h : w.ownsRow base e size v n xs) (hb : Below w.heap.size w w') : w'.ownsRow base e size v n xs := by
  refine ⟨h.1, ?_⟩
  rcases h.2 with h0 | ⟨g, cap, cur, rfl, hbg, hg, hr⟩
  · exact .inl h0
  · exact .inr ⟨g, cap, cur, rfl, hbg, by rw [hb.block g (Array.getElem?_eq_some_iff.1 hg).1]; exact hg, hr⟩

set_option maxHeartbeats 4000000 in
theorem encode_calls (N : Nat) : ∀ (t : Tree) (a : Option Addr) (c : Nat) (w : World) (base : Nat) (v : Value) (out : List UInt8), t.count ≤ N → Right t → t.depth ≤ 20 → At w (· < base) t a c → base ≤ w.heap.size → OwnB w base v out →
    out.length + (enc t).length ≤ 100000000000 → Calls Try.prog 42 #[v, val t a c] w (EncPost w base v (out ++ enc t)) := by
  induction N with
  | zero => intro t a c w base v out h _ _ _ _ _ _; rw [count_eq] at h; omega
  | succ N ih =>
    intro t a c w base v out hN hRt hdp hA hbase hO hlen
    obtain ⟨i0, hi0, hz0, hz1, hz2⟩ := info_parts byte_info
    rw [at_eq] at hA
    rw [count_eq] at hN
    rw [enc_eq] at hlen ⊢
    obtain ⟨hc1, hc2, hl⟩ := hA
    have hfe : fields t ↔ ((t.kind = 1 ∨ t.kind = 2 ∨ t.kind = 3) ∧ (t.kind ≠ 1 → t.num = 0) ∧ (t.kind ≠ 2 → t.text = ⟨#[]⟩) ∧ (t.kind ≠ 3 → t.list = [])) := Iff.rfl
    have hR2 := (right_eq t).1 hRt
    have hk := (hfe.1 hR2.1).1
    have hRL := Lib.hid hR2.2
    rw [depth_eq] at hdp
    clear hfe hRt hR2
    unfold val
    obtain ⟨l, hL⟩ : ∃ l, t.list = l := ⟨_, rfl⟩
    rw [hL] at hc1 hl hN hlen hRL hdp ⊢
    obtain ⟨n, hn⟩ : ∃ n, l.length = n := ⟨_, rfl⟩
    have HN := Lib.hid hn
    rw [hn] at hc1 hlen ⊢
    generalize t.kind = k0 at hk hlen ⊢
    generalize t.num = n0 at hlen ⊢
    generalize t.text = s0 at hlen ⊢
    have HCL := Lib.hid hN
    obtain ⟨m, hm⟩ : ∃ m, out.length = m := ⟨_, rfl⟩
    have HM := Lib.hid hm
    rw [hm] at hlen
    obtain ⟨A0, c0, rfl, qa, qa', hBy⟩ := hO.form_ hm
    have HO : Hid (w.ownsRow base 5 1 (.slice A0 m c0) m (cells out)) := by have := hO; unfold OwnB at this; rw [hm] at this; exact this
    have hlt0 : ∀ k, Value.ownBlock (.slice A0 m c0) = some k → base ≤ k ∧ k < w.heap.size := HO.out.lt
    have HLT := Lib.hid hlt0
    clear hL hn hN hO hBy hm hlt0
    rcases hk with rfl | rfl | rfl
    · rw [if_pos rfl] at hlen ⊢
      have hl9 : m + 9 ≤ 100000000000 := by simp only [List.length_cons, be_len] at hlen; omega
      have hwr := wrap_u64 n0
      have hul := u64N_lt n0
      obtain ⟨un, hun⟩ : ∃ un, u64N n0 = un := ⟨_, rfl⟩
      rw [hun] at hwr hul ⊢
      clear hlen hun
      go_enter Try.func42, Try.ntmps42
      go_wp2_with (first
        | (at_builtin
           refine wpList_append_any _ rfl (.tmp 7) (.tmp 11) _ rfl base 5 i0 _ 1 1 Try.underlying22 hi0 hz0 hz1 hz2 rfl (by omega) (.slice A0 m c0) m (cells out) rfl
             ((HO.out.alloc _).alloc _) (w.heap.size + 2) (some ⟨w.heap.size + 1, 0, none⟩) 1 1 [.int .u8 1] rfl ⟨rfl, fun _ => ⟨_, rfl, by show w.heap.size + 1 < w.heap.size + 2; omega, fun i u hu => by
               obtain rfl : i = 0 := by cases i with
                 | zero => rfl
                 | succ i => simp at hu
               rw [add_plain, cell_new (by simp)]; simpa using hu⟩⟩ (by intro u hu; simp at hu; subst hu; rfl) (by simp only [maxLen]; omega) (by omega) (by simp; omega) ?_
           intro v2 w2 hown2 hg2 hat2
           have HT2 : Hid (Track w (.slice A0 m c0) w2 v2) := (((Track.refl w (.slice A0 m c0)).alloc _).alloc _).step hg2 hat2
           have hbk : Blk w2 w.heap.size 26 #[Value.int .i64 1, .int .i64 n0, .string s0, .slice a n c] := ((Blk.new w 26 #[Value.int .i64 1, .int .i64 n0, .string s0, .slice a n c]).alloc _).grown hg2 (fun e => by have := (HLT.out _ e.symm).2; omega)
           have HBK := Lib.hid hbk
           have hb20 : w2.cell? ⟨w.heap.size, 0, none⟩ = some _ := hbk.cell 0
           have hb21 : w2.cell? ⟨w.heap.size, 1, none⟩ = some _ := hbk.cell 1
           have hb22 : w2.cell? ⟨w.heap.size, 2, none⟩ = some _ := hbk.cell 2
           have hb23 : w2.cell? ⟨w.heap.size, 3, none⟩ = some _ := hbk.cell 3
           have HO2 := Lib.hid hown2
           have hs2 := HT2.out.moved.size
           have hsz2 : w.heap.size + 2 ≤ w2.heap.size := by have := hg2.size; simp at this; omega
           clear hown2 hg2 hat2 hbk)
        | (go_at_call 55
           refine (word_calls un 8 _ hul (by omega)).mono ?_
           rintro e w3 ⟨v3, rfl, hO3, hb3⟩
           obtain ⟨A3, c3, rfl, q3, q3', hB3⟩ := hO3.form_ (be_len un 8)
           have HB3 := Lib.hid hB3
           have HW3 := Lib.hid hb3
           have hs3 := hb3.size
           clear hO3 hb3 hB3)
        | (at_builtin
           refine wpList_append_any _ rfl (.tmp 17) (.tmp 21) _ rfl base 5 i0 _ 1 1 Try.underlying22 hi0 hz0 hz1 hz2 rfl (by omega) v2 (m + 1) (cells out ++ [.int .u8 1]) rfl
             (OwnR.below_ HO2.out HW3.out) w3.heap.size A3 8 c3 (cells (be un 8)) rfl HB3.out.reads (cells_one _) (by simp only [maxLen]; omega) (by omega) (by omega) ?_
           intro v4 w4 hown4 hg4 hat4))
      go_ret
      exact encPost_of ((HT2.out.below HW3.out).step hg4 hat4) (ownB_of hown4 (by simp [cells]) (by simp [be_len, HM.out]))
    · rw [if_neg (by omega), if_pos rfl] at hlen ⊢
      have hl9 : m + 5 + s0.size ≤ 100000000000 := by simp only [List.length_cons, List.length_append, be_len, txt_len] at hlen; omega
      have hwr : IntKind.u64.wrap (s0.size : Int) = (s0.size : Int) := by rw [wrap_u64]; unfold u64N; omega
      clear hlen
      go_enter Try.func42, Try.ntmps42
      go_wp2_with (first
        | (at_builtin
           refine wpList_append_any _ rfl (.tmp 7) (.tmp 11) _ rfl base 5 i0 _ 1 1 Try.underlying22 hi0 hz0 hz1 hz2 rfl (by omega) (.slice A0 m c0) m (cells out) rfl
             ((HO.out.alloc _).alloc _) (w.heap.size + 2) (some ⟨w.heap.size + 1, 0, none⟩) 1 1 [.int .u8 2] rfl ⟨rfl, fun _ => ⟨_, rfl, by show w.heap.size + 1 < w.heap.size + 2; omega, fun i u hu => by
               obtain rfl : i = 0 := by cases i with
                 | zero => rfl
                 | succ i => simp at hu
               rw [add_plain, cell_new (by simp)]; simpa using hu⟩⟩ (by intro u hu; simp at hu; subst hu; rfl) (by simp only [maxLen]; omega) (by omega) (by simp; omega) ?_
           intro v2 w2 hown2 hg2 hat2
           have HT2 : Hid (Track w (.slice A0 m c0) w2 v2) := (((Track.refl w (.slice A0 m c0)).alloc _).alloc _).step hg2 hat2
           have hbk : Blk w2 w.heap.size 26 #[Value.int .i64 2, .int .i64 n0, .string s0, .slice a n c] := ((Blk.new w 26 #[Value.int .i64 2, .int .i64 n0, .string s0, .slice a n c]).alloc _).grown hg2 (fun e => by have := (HLT.out _ e.symm).2; omega)
           have HBK := Lib.hid hbk
           have hb20 : w2.cell? ⟨w.heap.size, 0, none⟩ = some _ := hbk.cell 0
           have hb21 : w2.cell? ⟨w.heap.size, 1, none⟩ = some _ := hbk.cell 1
           have hb22 : w2.cell? ⟨w.heap.size, 2, none⟩ = some _ := hbk.cell 2
           have hb23 : w2.cell? ⟨w.heap.size, 3, none⟩ = some _ := hbk.cell 3
           have HO2 := Lib.hid hown2
           have hs2 := HT2.out.moved.size
           have hsz2 : w.heap.size + 2 ≤ w2.heap.size := by have := hg2.size; simp at this; omega
           clear hown2 hg2 hat2 hbk))
      go_region_held3 (fun w' => w'.cell? ⟨w.heap.size, 2, none⟩ = some (.string s0)) (first | assumption | go_keep) (first
        | (go_at_call 55
           refine (word_calls s0.size 4 _ (by omega) (by omega)).mono ?_
           rintro e w3 ⟨v3, rfl, hO3, hb3'⟩
           have hb3 : Below w2.heap.size w2 w3 := (Below.refl w2.heap.size w2).drew.trans hb3'
           obtain ⟨A3, c3, rfl, q3, q3', hB3⟩ := hO3.form_ (be_len s0.size 4)
           have HB3 := Lib.hid hB3
           have HW3 := Lib.hid hb3
           have hs3 := hb3.size
           have HBK3 : Hid (Blk w3 w.heap.size 26 #[Value.int .i64 2, .int .i64 n0, .string s0, .slice a n c]) := HBK.out.below hb3 (by omega)
           have hc3 : w3.cell? ⟨w.heap.size, 2, none⟩ = some (.string s0) := HBK3.out.cell 2
           clear hO3 hb3 hB3 hb3')
        | (refine step_append_any _ rfl (.tmp 25) (.tmp 30) _ rfl base 5 i0 _ 1 1 Try.underlying22 hi0 hz0 hz1 hz2 rfl (by omega) v2 (m + 1) (cells out ++ [.int .u8 2]) rfl
             (OwnR.below_ HO2.out HW3.out) w3.heap.size A3 4 c3 (cells (be s0.size 4)) rfl HB3.out.reads (cells_one _) (by simp only [maxLen]; omega) (by omega) (by omega) ?_
           intro v4 w4 hown4 hg4 hat4
           have HT4 : Hid (Track w (.slice A0 m c0) w4 v4) := (HT2.out.below HW3.out).step hg4 hat4
           have HO4 := Lib.hid hown4
           have hs4 := hg4.size
           have HBK4 : Hid (Blk w4 w.heap.size 26 #[Value.int .i64 2, .int .i64 n0, .string s0, .slice a n c]) := HBK3.out.grown hg4 (fun e => own_blk_ne HO2.out HBK.out (by decide) e.symm)
           have hc4 : w4.cell? ⟨w.heap.size, 2, none⟩ = some (.string s0) := HBK4.out.cell 2
           clear hown4 hg4 hat4)
        | (refine step_append_str _ rfl (.tmp 31) (.tmp 33) _ _ rfl base 5 i0 Try.underlying22 Try.underlying9 hi0 hz0 hz1 hz2 v4 (m + 1 + 4) (cells out ++ [.int .u8 2] ++ cells (be s0.size 4)) rfl
             HO4.out s0 rfl (by simp only [maxLen]; omega) (by omega) (by omega) ?_
           intro v5 w5 hown5 hg5 hat5
           have HT5 : Hid (Track w (.slice A0 m c0) w5 v5) := HT4.out.step hg5 hat5
           have HO5 := Lib.hid hown5
           have hc5 : w5.cell? ⟨w.heap.size, 2, none⟩ = some (.string s0) := (HBK4.out.grown hg5 (fun e => own_blk_ne HO4.out HBK4.out (by decide) e.symm)).cell 2
           clear hown5 hg5 hat5))
      all_goals go_wp2_with fail
      all_goals go_ret
      all_goals exact encPost_of HT5.out (ownB_of HO5.out (by simp [cells, txt_cells]) (by simp [be_len, HM.out, txt_len]; omega))
    · rw [if_neg (by omega), if_neg (by omega)] at hlen ⊢
      have hl9 : m + 5 + (encL l).length ≤ 100000000000 := by simp only [List.length_cons, List.length_append, be_len] at hlen; omega
      have hLn : n ≤ (encL l).length := by rw [← HN.out]; exact encL_len l
      have hwr : IntKind.u64.wrap (n : Int) = (n : Int) := by rw [wrap_u64]; unfold u64N; omega
      have HL9 := Lib.hid hl9
      have hn9 : m + 5 + n ≤ 100000000000 := by omega
      clear hlen hl9 hLn
      go_enter Try.func42, Try.ntmps42
      go_wp2_with (first
        | (at_builtin
           refine wpList_append_any _ rfl (.tmp 7) (.tmp 11) _ rfl base 5 i0 _ 1 1 Try.underlying22 hi0 hz0 hz1 hz2 rfl (by omega) (.slice A0 m c0) m (cells out) rfl
             ((HO.out.alloc _).alloc _) (w.heap.size + 2) (some ⟨w.heap.size + 1, 0, none⟩) 1 1 [.int .u8 3] rfl ⟨rfl, fun _ => ⟨_, rfl, by show w.heap.size + 1 < w.heap.size + 2; omega, fun i u hu => by
               obtain rfl : i = 0 := by cases i with
                 | zero => rfl
                 | succ i => simp at hu
               rw [add_plain, cell_new (by simp)]; simpa using hu⟩⟩ (by intro u hu; simp at hu; subst hu; rfl) (by simp only [maxLen]; omega) (by omega) (by simp; omega) ?_
           intro v2 w2 hown2 hg2 hat2
           have HT2 : Hid (Track w (.slice A0 m c0) w2 v2) := (((Track.refl w (.slice A0 m c0)).alloc _).alloc _).step hg2 hat2
           have hbk : Blk w2 w.heap.size 26 #[Value.int .i64 3, .int .i64 n0, .string s0, .slice a n c] := ((Blk.new w 26 #[Value.int .i64 3, .int .i64 n0, .string s0, .slice a n c]).alloc _).grown hg2 (fun e => by have := (HLT.out _ e.symm).2; omega)
           have HBK := Lib.hid hbk
           have hb20 : w2.cell? ⟨w.heap.size, 0, none⟩ = some _ := hbk.cell 0
           have hb21 : w2.cell? ⟨w.heap.size, 1, none⟩ = some _ := hbk.cell 1
           have hb22 : w2.cell? ⟨w.heap.size, 2, none⟩ = some _ := hbk.cell 2
           have hb23 : w2.cell? ⟨w.heap.size, 3, none⟩ = some _ := hbk.cell 3
           have HO2 := Lib.hid hown2
           have hs2 := HT2.out.moved.size
           have hsz2 : w.heap.size + 2 ≤ w2.heap.size := by have := hg2.size; simp at this; omega
           clear hown2 hg2 hat2 hbk)
        | (go_at_call 55
           refine (word_calls n 4 _ (by omega) (by omega)).mono ?_
           rintro e w3 ⟨v3, rfl, hO3, hb3⟩
           obtain ⟨A3, c3, rfl, q3, q3', hB3⟩ := hO3.form_ (be_len n 4)
           have HB3 := Lib.hid hB3
           have HW3 := Lib.hid hb3
           have hs3 := hb3.size
           have HBK3 : Hid (Blk w3 w.heap.size 26 #[Value.int .i64 3, .int .i64 n0, .string s0, .slice a n c]) := HBK.out.below hb3 (by omega)
           clear hO3 hb3 hB3)
        | (at_builtin
           refine wpList_append_any _ rfl (.tmp 35) (.tmp 40) _ rfl base 5 i0 _ 1 1 Try.underlying22 hi0 hz0 hz1 hz2 rfl (by omega) v2 (m + 1) (cells out ++ [.int .u8 3]) rfl
             (OwnR.below_ HO2.out HW3.out) w3.heap.size A3 4 c3 (cells (be n 4)) rfl HB3.out.reads (cells_one _) (by simp only [maxLen]; omega) (by omega) (by omega) ?_
           intro v4 w4 hown4 hg4 hat4
           have HT4 : Hid (Track w (.slice A0 m c0) w4 v4) := (HT2.out.below HW3.out).step hg4 hat4
           have HO4 : Hid (OwnB w4 base v4 (out ++ 3 :: be n 4)) := ownB_of hown4 (by simp [cells]) (by simp [be_len, HM.out])
           have hc4 : w4.cell? ⟨w.heap.size, 3, none⟩ = some (.slice a n c) := (HBK3.out.grown hg4 (fun e => own_blk_ne HO2.out HBK.out (by decide) e.symm)).cell 3
           have hs4 := HT4.out.moved.size
           clear hown4 hg4 hat4))
      go_loopw [0, 45] (fun u i wr => ∃ (q : Nat) (v' : Value), q ≤ n ∧ i = .int .i64 (q : Nat) ∧ v' = u ∧ OwnB wr base v' ((out ++ 3 :: be n 4) ++ encL (l.take q)) ∧ Track w (.slice A0 m c0) wr v') (fun _ i _ => n - (intOf i).toNat)
      case atStart => exact ⟨0, v4, Nat.zero_le _, rfl, rfl, by simpa [encL] using HO4.out, HT4.out⟩
      case round =>
        obtain ⟨q, v', hq, rfl, rfl, hO', hT'⟩ := hrel
        have HO' := Lib.hid hO'
        have HT' := Lib.hid hT'
        have hsz := hT'.moved.size
        have HBW : Hid (Below base w wr) := hT'.old (fun k hk => (HLT.out k hk).1) hbase
        clear hO' hT'
        by_cases hlt : q < n
        · rcases hl with h0 | ⟨b, off, rfl, hb, hAL⟩
          · rw [h0] at HN; have := HN.out; simp at this; omega
          have hq' : q < l.length := by rw [HN.out]; exact hlt
          obtain ⟨a', c', e0, e1, e2, e3, hAt⟩ := AtL.get l b off hAL q hq'
          have cell : ∀ o v, w.cell? ⟨b, o, none⟩ = some v → wr.cell? ⟨b, o, none⟩ = some v := fun o v h => (HBW.out.cell (p := ⟨b, o, none⟩) hb).trans h
          have f0 := cell _ _ e0
          have f1 := cell _ _ e1
          have f2 := cell _ _ e2
          have f3 := cell _ _ e3
          have hct := countL_take hq'
          have hcl2 := countL_le l (q + 1)
          have hdt := depthL_take hq'
          have hdl2 := depthL_le l (q + 1)
          have het := encL_take hq'
          have hel2 := encL_le l (q + 1)
          rw [het, List.length_append] at hel2
          have HET := Lib.hid het
          have HIH : Hid (∀ W, W = wr.alloc (.cells #[.int .i64 l[q].kind, .int .i64 l[q].num, .string l[q].text, .slice a' l[q].list.length c'] 26) → Calls Try.prog 42 #[v', val l[q] a' c'] W (EncPost W base v' (((out ++ 3 :: be n 4) ++ encL (l.take q)) ++ enc l[q]))) := fun W e => by
            subst e
            exact ih _ _ _ _ _ _ _ (by have := HCL.out; omega) (rightL_mem hRL.out _ (List.getElem_mem hq')) (by omega) (hAt.below (HBW.out.alloc (by omega) _)) (by simp; omega) (HO'.out.below ((Below.refl _ _).alloc (Nat.le_refl _) _))
              (by simp only [List.length_append, List.length_cons, be_len, HM.out]; have := HL9.out; omega)
          unfold val at HIH
          clear hAL e0 e1 e2 e3 hAt cell hct hcl2 hdt hdl2 het hel2
          go_wp2_with fail
          refine (HIH.out _ rfl).mono ?_
          intro e w2 hP
          obtain ⟨v5, rfl, hO5, hT5⟩ := hP.track
          have HO5 : Hid (OwnB w2 base v5 ((out ++ 3 :: be n 4) ++ encL (l.take (q + 1)))) := by unfold Hid; rw [HET.out, ← List.append_assoc]; exact hO5
          have HT5 : Hid (Track w (.slice A0 m c0) w2 v5) := (HT'.out.alloc _).trans hT5
          clear hO5 hT5 hP
          go_wp2_with fail
          go_roundw
          case rel => exact ⟨q + 1, v5, by omega, by go_num, rfl, HO5.out, HT5.out⟩
          case measure => simp [intOf]; omega
        · obtain rfl : q = n := by omega
          have HF : Hid (OwnB wr base v' (out ++ 3 :: (be q 4 ++ encL l))) := by
            have := HO'.out
            rw [List.take_of_length_le (by rw [HN.out]; exact Nat.le_refl _)] at this
            unfold Hid; simpa using this
          go_wp2_with fail
          go_ret
          exact encPost_of HT'.out HF.out
end Go.Proofs.Ytkmikpmbnfcbpaa
