/- What ItemMakes builds. -/
import Derived.Test.YtkmikpmbnfcbpaaHb
namespace Go.Proofs.Ytkmikpmbnfcbpaa
open Go.RowKit Go.Lib
set_option linter.unusedVariables false
open Tree Anyv

theorem at_two {w : World} {t u : Tree} {a a' : Option Addr} {c c' : Nat} (h : At w (· < w.heap.size) t a c) (h' : At w (· < w.heap.size) u a' c') :
    At (w.alloc (.cells #[.int .i64 t.kind, .int .i64 t.num, .string t.text, .slice a t.list.length c, .int .i64 u.kind, .int .i64 u.num, .string u.text, .slice a' u.list.length c'] 26))
      (· < (w.alloc (.cells #[.int .i64 t.kind, .int .i64 t.num, .string t.text, .slice a t.list.length c, .int .i64 u.kind, .int .i64 u.num, .string u.text, .slice a' u.list.length c'] 26)).heap.size) (.mk 3 0 ⟨#[]⟩ [t, u]) (some ⟨w.heap.size, 0, none⟩) 2 := by
  simp only [At]
  refine ⟨by simp, by omega, .inr ⟨_, _, rfl, by simp, RowL.atL [t, u] (t.item a c ++ (u.item a' c' ++ [])) _ _ ⟨a, c, _, rfl, at_alloc h _, a', c', [], rfl, at_alloc h' _, rfl⟩ fun j v hv => ?_⟩⟩
  rw [cell_new rfl, Nat.zero_add]
  simpa [Tree.item] using hv
theorem at_readsK {w : World} {K : Nat → Prop} {k n : Int} {s : ByteArray} {l : List Tree} {a : Option Addr} {c : Nat} (h : At w K (.mk k n s l) a c) (hK : ∀ b, K b → b < w.heap.size) : ∃ xs, RowL w K l xs ∧ Reads w w.heap.size 4 a l.length xs := by
  simp only [At] at h
  rcases h.2.2 with rfl | ⟨b, off, rfl, hb, hL⟩
  · exact ⟨[], rfl, by simp, fun h => by simp at h⟩
  · obtain ⟨xs, h1, h2⟩ := AtL.row l b off hL
    refine ⟨xs, h1, RowL.len l xs h1, fun _ => ⟨_, rfl, hK b hb, fun j u hu => ?_⟩⟩
    rw [add_plain]; exact h2 j u hu
set_option maxHeartbeats 1000000 in
theorem lst34K (K : Nat → Prop) (l : List Tree) (a : Option Addr) (c : Nat) (w : World) (k0 n0 : Int) (s0 : ByteArray) (hA : At w K (.mk k0 n0 s0 l) a c) (hK : ∀ b, K b → b < w.heap.size) (hn : l.length ≤ 1000000000) :
    Calls Try.prog 34 #[.slice a l.length c] w fun e w' => ∃ a' c', e = .returned (val (.mk 3 0 ⟨#[]⟩ l) a' c') ∧ At w' (fun b => K b ∨ (w.heap.size < b ∧ b < w'.heap.size)) (.mk 3 0 ⟨#[]⟩ l) a' c' ∧ Below w.heap.size w w' := by
  obtain ⟨i0, hi0, hz0, hz1, hz2⟩ := info_parts item_info
  obtain ⟨xs, hr, hx⟩ := at_readsK hA hK
  have HR := Lib.hid hr
  have HX := Lib.hid hx
  obtain ⟨n, hln⟩ : ∃ n, l.length = n := ⟨_, rfl⟩
  have HLN := Lib.hid hln
  rw [hln] at HX hn ⊢
  clear hr hx hA hln
  go_enter Try.func34, Try.ntmps34
  go_wp2_with (first
    | (at_builtin
       refine wpList_append_any _ rfl (.const (.slice none 0 0)) (.tmp 3) _ rfl (w.heap.size + 1) 26 i0 _ 4 56 Try.underlying24 hi0 hz0 hz1 hz2 rfl (by omega) (.slice none 0 0) 0 [] rfl
         (World.ownsRow_nil _ _ _ _) w.heap.size a n c xs rfl (HX.out.alloc (Nat.le_refl _) _) (RowL.one _ _ HR.out) (by simp only [maxLen]; omega) (by omega) (by simp) ?_
       intro v2 w2 hown2 hg2 hat2
       have hbk := (Blk.new w 26 #[.int .i64 0, .int .i64 0, .string ⟨#[]⟩, .slice none 0 0]).grown hg2 (by simp [Value.ownBlock])
       have HB : Hid (Below w.heap.size w w2) := ((Below.refl _ _).alloc (Nat.le_refl _) _).grown hg2 (by simp) (by simp [Value.ownBlock])
       have hrow : RowL w2 K l xs := RowL.keep (fun b hb => HB.out.block b (hK b hb)) (fun b hb => hb) _ _ HR.out
       obtain ⟨a2, c2, hv2, _, _, hA2⟩ := row_form (by rw [HLN.out]; simpa using hown2) hrow 3 0 ⟨#[]⟩
       rw [HLN.out] at hv2
       subst hv2
       have HA2 := Lib.hid hA2
       have HBK := Lib.hid hbk
       have hc0 := hbk.c0
       have hc1 := hbk.c1
       have hc2 := hbk.c2
       have hc3 := hbk.c3
       have hf0 := hbk.frozen 0
       have hf1 := hbk.frozen 1
       have hf2 := hbk.frozen 2
       have hf3 := hbk.frozen 3
       clear hown2 hg2 hat2 hbk hA2))
  refine bodyPost_ret (res_cell rfl (Blk.put4 HBK.out) rfl) rfl ⟨a2, c2, by simp only [val, kind, Tree.num, text, list]; rw [HLN.out], ?_, Below.put4_ HB.out (Nat.le_refl _)⟩
  refine (HA2.out.keep (w' := put4 w2 w.heap.size _ _ _ _) fun b hb => put4_block (by rcases hb with h | h; exact fun e => absurd (hK b h) (by omega); omega)).imp fun b hb => ?_
  rcases hb with h | h
  · exact .inl h
  · exact .inr ⟨by omega, Nat.lt_of_lt_of_eq h.2 put4_size.symm⟩

theorem at_two_ne {w : World} {g : Nat} (hg : g < w.heap.size) {t u : Tree} {a a' : Option Addr} {c c' : Nat} (h : At w (fun b => b < w.heap.size ∧ b ≠ g) t a c) (h' : At w (fun b => b < w.heap.size ∧ b ≠ g) u a' c') :
    At (w.alloc (.cells #[.int .i64 t.kind, .int .i64 t.num, .string t.text, .slice a t.list.length c, .int .i64 u.kind, .int .i64 u.num, .string u.text, .slice a' u.list.length c'] 26))
      (fun b => b < w.heap.size + 1 ∧ b ≠ g) (.mk 3 0 ⟨#[]⟩ [t, u]) (some ⟨w.heap.size, 0, none⟩) 2 := by
  have k : ∀ (t : Tree) (a : Option Addr) (c : Nat) (o : Obj), At w (fun b => b < w.heap.size ∧ b ≠ g) t a c → At (w.alloc o) (fun b => b < w.heap.size + 1 ∧ b ≠ g) t a c := fun t a c o h =>
    (h.keep (w' := w.alloc o) fun b hb => ((Below.refl w.heap.size w).alloc (Nat.le_refl _) o).block b hb.1).imp fun b hb => ⟨by omega, hb.2⟩
  simp only [At]
  refine ⟨by simp, by omega, .inr ⟨_, _, rfl, ⟨by omega, by omega⟩, RowL.atL [t, u] (t.item a c ++ (u.item a' c' ++ [])) _ _ ⟨a, c, _, rfl, k _ _ _ _ h, a', c', [], rfl, k _ _ _ _ h', rfl⟩ fun j v hv => ?_⟩⟩
  rw [cell_new rfl, Nat.zero_add]
  simpa [Tree.item] using hv
def numT (n : Int) : Tree := .mk 1 n ⟨#[]⟩ []
def strT (s : ByteArray) : Tree := .mk 2 0 s []
def makeT (n : Int) (s : ByteArray) (zs : List Int) : Tree := .mk 3 0 ⟨#[]⟩ [.mk 3 0 ⟨#[]⟩ [numT n, strT s], .mk 3 0 ⟨#[]⟩ (zs.map numT)]
theorem at_leaf (w : World) (K : Nat → Prop) (k n : Int) (s : ByteArray) : At w K (.mk k n s []) none 0 := by simp only [At]; exact ⟨Nat.le_refl _, by omega, .inl (by trivial)⟩
theorem right_nums : ∀ zs : List Int, RightL (zs.map numT)
  | [] => trivial
  | z :: r => ⟨by simp [numT, Right, RightL, fields, kind, Tree.num, text, list], right_nums r⟩
theorem depth_nums : ∀ zs : List Int, depthL (zs.map numT) ≤ 1
  | [] => by simp [depthL]
  | z :: r => by have := depth_nums r; simp only [List.map_cons, depthL, numT, depth]; omega
theorem count_nums : ∀ zs : List Int, countL (zs.map numT) = zs.length
  | [] => rfl
  | z :: r => by have := count_nums r; simp only [List.map_cons, countL, numT, count, List.length_cons]; omega
theorem makeT_fits (n : Int) (s : ByteArray) (zs : List Int) (h : zs.length ≤ 60) : Fits (makeT n s zs) 20 := by
  have h1 := right_nums zs
  have h2 := depth_nums zs
  have h3 := count_nums zs
  refine ⟨?_, ?_, ?_⟩
  · simp only [makeT, Right, RightL]
    refine ⟨by simp [fields, kind, Tree.num, text, list], ⟨by simp [fields, kind, Tree.num, text, list], ?_, ?_, trivial⟩, ⟨by simp [fields, kind, Tree.num, text, list], h1⟩, trivial⟩
    · simp [numT, Right, RightL, fields, kind, Tree.num, text, list]
    · simp [strT, Right, RightL, fields, kind, Tree.num, text, list]
  · simp only [makeT, depth, depthL, numT, strT]; omega
  · simp only [makeT, count, countL, numT, strT]; omega
theorem numsT_fits (zs : List Int) (h : zs.length ≤ 60) : Fits (.mk 3 0 ⟨#[]⟩ (zs.map numT)) 20 := by
  have h2 := depth_nums zs
  have h3 := count_nums zs
  refine ⟨?_, ?_, ?_⟩
  · simp only [Right]; exact ⟨by simp [fields, kind, Tree.num, text, list], right_nums zs⟩
  · simp only [depth]; omega
  · simp only [count]; omega
theorem make_at00 (n : Int) (s : ByteArray) (zs : List Int) : atE (makeT n s zs) [0, 0] = (numT n, 0) := by
  rw [atE_cons (i := 0) (by rfl) (by omega) (by show 0 < 2; omega)]
  exact (atE_cons (t := .mk 3 0 ⟨#[]⟩ [numT n, strT s]) (i := 0) (by rfl) (by omega) (by show 0 < 2; omega)).trans rfl
theorem make_at01 (n : Int) (s : ByteArray) (zs : List Int) : atE (makeT n s zs) [0, 1] = (strT s, 0) := by
  rw [atE_cons (i := 0) (by rfl) (by omega) (by show 0 < 2; omega)]
  exact (atE_cons (t := .mk 3 0 ⟨#[]⟩ [numT n, strT s]) (i := 1) (by rfl) (by omega) (by show 1 < 2; omega)).trans rfl
theorem make_at1 (n : Int) (s : ByteArray) (zs : List Int) : atE (makeT n s zs) [1] = (.mk 3 0 ⟨#[]⟩ (zs.map numT), 0) := by
  rw [atE_cons (i := 1) (by rfl) (by omega) (by show 1 < 2; omega)]
  rfl
theorem nums_two (w : World) (x y : Int) : Nums (w.alloc (.cells #[.int .i64 x, .int .i64 y] 3)) (w.alloc (.cells #[.int .i64 x, .int .i64 y] 3)).heap.size (some ⟨w.heap.size, 0, none⟩) 2 [x, y] := by
  refine ⟨rfl, .inr ⟨_, _, rfl, by simp, fun i hi => ?_⟩⟩
  rw [cell_new rfl, Nat.zero_add]
  match i, hi with
  | 0, _ => rfl
  | 1, _ => rfl
theorem nums_one (w : World) (x : Int) : Nums (w.alloc (.cells #[.int .i64 x] 3)) (w.alloc (.cells #[.int .i64 x] 3)).heap.size (some ⟨w.heap.size, 0, none⟩) 1 [x] := by
  refine ⟨rfl, .inr ⟨_, _, rfl, by simp, fun i hi => ?_⟩⟩
  rw [cell_new rfl, Nat.zero_add]
  match i, hi with
  | 0, _ => rfl
theorem IsRow.nums {w : World} {a : Option Addr} {len cap : Nat} {zs : List Int} (h : IsRow .i64 w a len cap zs) : Nums w w.heap.size a len (zs.take len) ∧ len ≤ cap ∧ cap ≤ 9223372036854775807 := by
  rcases h with ⟨rfl, rfl, rfl, rfl⟩ | ⟨x, rfl, hl, hm, hz, hc, hw⟩
  · exact ⟨⟨rfl, .inl rfl⟩, Nat.le_refl _, by omega⟩
  · refine ⟨⟨by rw [List.length_take]; omega, ?_⟩, hl, by unfold maxLen at hm; omega⟩
    rcases Nat.eq_zero_or_pos len with h0 | h0
    · exact .inl h0
    · obtain ⟨b, off, spot⟩ := x
      have hc0 := hc 0 (by omega)
      have hspot : spot = none := by simpa [Addr.add] using World.cell?_spot hc0
      subst hspot
      have hlt := lt_of_cell hc0
      refine .inr ⟨b, off, rfl, by simpa [Addr.add] using hlt, fun i hi => ?_⟩
      have := hc i (by omega)
      rw [add_plain] at this
      rw [this, List.getD_eq_getElem?_getD, List.getD_eq_getElem?_getD, List.getElem?_take, if_pos hi]
end Go.Proofs.Ytkmikpmbnfcbpaa
