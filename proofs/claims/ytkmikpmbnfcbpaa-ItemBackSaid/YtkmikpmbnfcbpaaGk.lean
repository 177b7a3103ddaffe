/- Values as any: what they are, how they lie in memory; the contract of asAny. -/
import Derived.Test.YtkmikpmbnfcbpaaGj
namespace Go.Proofs.Ytkmikpmbnfcbpaa
open Go.RowKit Go.Lib
set_option linter.unusedVariables false
open Tree

inductive Anyv where
  | num (n : Int)
  | str (s : ByteArray)
  | flag (b : Bool)
  | lst (l : List Anyv)
namespace Anyv
mutual
/-- The value v holds it; all its blocks are named by K. -/
def Lies (w : World) (K : Nat → Prop) : Anyv → Value → Prop
  | num n, v => v = .iface 3 (.int .i64 n)
  | str s, v => v = .iface 9 (.string s)
  | flag b, v => v = .iface 4 (.bool b)
  | lst l, v => ∃ a c, v = .iface 59 (.slice a l.length c) ∧ l.length ≤ c ∧ c ≤ 9223372036854775807 ∧ (l = [] ∨ ∃ b off, a = some ⟨b, off, none⟩ ∧ K b ∧ LiesL w K l b off)
def LiesL (w : World) (K : Nat → Prop) : List Anyv → Nat → Nat → Prop
  | [], _, _ => True
  | t :: r, b, off => (∃ v, w.cell? ⟨b, off, none⟩ = some v ∧ Lies w K t v) ∧ LiesL w K r b (off + 1)
end
theorem Lies.iface {w : World} {K : Nat → Prop} {t : Anyv} {v : Value} (h : Lies w K t v) : ∃ T x, v = .iface T x := by
  cases t with
  | num n => simp only [Lies] at h; exact ⟨_, _, h⟩
  | str n => simp only [Lies] at h; exact ⟨_, _, h⟩
  | flag n => simp only [Lies] at h; exact ⟨_, _, h⟩
  | lst l => simp only [Lies] at h; obtain ⟨a, c, h, _⟩ := h; exact ⟨_, _, h⟩
theorem lies_keep {w w' : World} {K K' : Nat → Prop} (hk : ∀ b, K b → w'.heap[b]? = w.heap[b]?) (hK : ∀ b, K b → K' b) :
    (∀ (t : Anyv) (v : Value), Lies w K t v → Lies w' K' t v) ∧ (∀ (l : List Anyv) (b off : Nat), K b → LiesL w K l b off → LiesL w' K' l b off) := by
  have cell : ∀ b o, K b → w'.cell? ⟨b, o, none⟩ = w.cell? ⟨b, o, none⟩ := fun b o h => World.cell?_of_block (w := w) (a := ⟨b, o, none⟩) (hk b h)
  have main : ∀ n, (∀ (t : Anyv) (v : Value), SizeOf.sizeOf t ≤ n → Lies w K t v → Lies w' K' t v) ∧ (∀ (l : List Anyv) (b off : Nat), SizeOf.sizeOf l ≤ n → K b → LiesL w K l b off → LiesL w' K' l b off) := by
    intro n
    induction n with
    | zero => exact ⟨fun t v h => by cases t <;> simp at h, fun l b off h => by cases l <;> simp at h⟩
    | succ n ih =>
      refine ⟨fun t v h hA => ?_, fun l b off h hb hA => ?_⟩
      · cases t with
        | num n => simp only [Lies] at hA ⊢; exact hA
        | str n => simp only [Lies] at hA ⊢; exact hA
        | flag n => simp only [Lies] at hA ⊢; exact hA
        | lst l =>
          simp only [Lies] at hA ⊢
          obtain ⟨a, c, e, h1, h2, h3⟩ := hA
          refine ⟨a, c, e, h1, h2, ?_⟩
          rcases h3 with h0 | ⟨b, off, e, hb, hL⟩
          · exact .inl h0
          · exact .inr ⟨b, off, e, hK b hb, ih.2 l b off (by simp at h; omega) hb hL⟩
      · cases l with
        | nil => simp only [LiesL]
        | cons t r =>
          simp only [LiesL] at hA ⊢
          obtain ⟨⟨v, h1, h2⟩, h6⟩ := hA
          have hs : SizeOf.sizeOf t ≤ n ∧ SizeOf.sizeOf r ≤ n := by simp at h; omega
          exact ⟨⟨v, (cell b _ hb).trans h1, ih.1 t v hs.1 h2⟩, ih.2 r b (off + 1) hs.2 hb h6⟩
  exact ⟨fun t v h => (main (SizeOf.sizeOf t)).1 t v (Nat.le_refl _) h, fun l b off hb h => (main (SizeOf.sizeOf l)).2 l b off (Nat.le_refl _) hb h⟩
theorem Lies.keep {w w' : World} {K : Nat → Prop} {t : Anyv} {v : Value} (h : Lies w K t v) (hk : ∀ b, K b → w'.heap[b]? = w.heap[b]?) : Lies w' K t v := (lies_keep hk fun _ h => h).1 t v h
theorem Lies.imp {w : World} {K K' : Nat → Prop} {t : Anyv} {v : Value} (h : Lies w K t v) (hK : ∀ b, K b → K' b) : Lies w K' t v := (lies_keep (fun _ _ => rfl) hK).1 t v h
theorem Lies.below {w w' : World} {B : Nat} {t : Anyv} {v : Value} (h : Lies w (· < B) t v) (hb : Below B w w') : Lies w' (· < B) t v := h.keep fun b hB => hb.block b hB
theorem Lies.more {w : World} {B B' : Nat} {t : Anyv} {v : Value} (h : Lies w (· < B) t v) (hB : B ≤ B') : Lies w (· < B') t v := h.imp fun b hb => Nat.lt_of_lt_of_le hb hB
theorem LiesL.get {w : World} {K : Nat → Prop} : ∀ (l : List Anyv) (b off : Nat), LiesL w K l b off → ∀ i (hi : i < l.length), ∃ v, w.cell? ⟨b, off + i, none⟩ = some v ∧ Lies w K l[i] v := by
  intro l
  induction l with
  | nil => intro b off _ i hi; simp at hi
  | cons t r ih =>
    intro b off h i hi
    simp only [LiesL] at h
    cases i with
    | zero => exact h.1
    | succ i =>
      have := ih b (off + 1) h.2 i (by simpa using hi)
      rw [show off + 1 + i = off + (i + 1) by omega] at this
      exact this
def RowA (w : World) (K : Nat → Prop) : List Anyv → List Value → Prop
  | [], xs => xs = []
  | t :: r, xs => ∃ v ys, xs = v :: ys ∧ Lies w K t v ∧ RowA w K r ys
theorem RowA.keep {w w' : World} {K K' : Nat → Prop} (hk : ∀ b, K b → w'.heap[b]? = w.heap[b]?) (hK : ∀ b, K b → K' b) : ∀ (l : List Anyv) (xs : List Value), RowA w K l xs → RowA w' K' l xs := by
  intro l
  induction l with
  | nil => intro xs h; exact h
  | cons t r ih =>
    intro xs h
    obtain ⟨v, ys, e, hA, hr⟩ := h
    exact ⟨v, ys, e, (hA.keep hk).imp hK, ih ys hr⟩
theorem RowA.snoc {w : World} {K : Nat → Prop} {t : Anyv} {v : Value} (hA : Lies w K t v) : ∀ (l : List Anyv) (xs : List Value), RowA w K l xs → RowA w K (l ++ [t]) (xs ++ [v]) := by
  intro l
  induction l with
  | nil => intro xs h; subst h; exact ⟨v, [], by simp, hA, rfl⟩
  | cons u r ih =>
    intro xs h
    obtain ⟨v', ys, rfl, hA', hr⟩ := h
    exact ⟨v', ys ++ [v], by simp, hA', ih ys hr⟩
theorem RowA.liesL {w : World} {K : Nat → Prop} : ∀ (l : List Anyv) (xs : List Value) (b off : Nat), RowA w K l xs → (∀ j u, xs[j]? = some u → w.cell? ⟨b, off + j, none⟩ = some u) → LiesL w K l b off := by
  intro l
  induction l with
  | nil => intro xs b off h _; simp only [LiesL]
  | cons t r ih =>
    intro xs b off h hc
    obtain ⟨v, ys, rfl, hA, hr⟩ := h
    simp only [LiesL]
    refine ⟨⟨v, hc 0 _ rfl, hA⟩, ih ys b (off + 1) hr fun j u hu => ?_⟩
    rw [show off + 1 + j = off + (j + 1) by omega]
    exact hc (j + 1) u (by simpa using hu)
end Anyv
open Anyv
/-- A row of the call's own that holds the values l; what lies below them lies from lo on, not in the row itself. -/
structure OwnA (w : World) (base lo : Nat) (v : Value) (l : List Anyv) (xs : List Value) : Prop where
  own : w.ownsRow base 20 1 v l.length xs
  row : RowA w (fun b => lo ≤ b ∧ b < w.heap.size ∧ v.ownBlock ≠ some b) l xs
section
variable {w w' : World} {base lo : Nat} {v : Value} {l : List Anyv} {xs : List Value}
theorem OwnA.below (h : OwnA w base lo v l xs) (hb : Below w.heap.size w w') : OwnA w' base lo v l xs :=
  ⟨OwnR.below_ h.own hb, RowA.keep (fun b hB => hb.block b hB.2.1) (fun b hB => ⟨hB.1, by have := hb.size; omega, hB.2.2⟩) _ _ h.row⟩
theorem OwnA.alloc (h : OwnA w base lo v l xs) (o : Obj) : OwnA (w.alloc o) base lo v l xs := h.below ((Below.refl _ _).alloc (Nat.le_refl _) _)
theorem OwnA.push {t : Anyv} {u : Value} {v' : Value} (h : OwnA w base lo v l xs) (hA : Lies w (fun b => lo ≤ b ∧ b < w.heap.size ∧ v.ownBlock ≠ some b) t u)
    (hown : w'.ownsRow base 20 1 v' (l.length + 1) (xs ++ [u])) (hg : w.grownBy w' v.ownBlock) (hat : v'.ownBlock = v.ownBlock ∨ v'.ownBlock = some w.heap.size) : OwnA w' base lo v' (l ++ [t]) (xs ++ [u]) := by
  have k : ∀ b, (lo ≤ b ∧ b < w.heap.size ∧ v.ownBlock ≠ some b) → (lo ≤ b ∧ b < w'.heap.size ∧ v'.ownBlock ≠ some b) := fun b hb => ⟨hb.1, by have := hg.size; omega, fun e => by
    rcases hat with e' | e'
    · exact hb.2.2 (by rw [← e', e])
    · rw [e'] at e; injection e with e; omega⟩
  have k2 : ∀ b, (lo ≤ b ∧ b < w.heap.size ∧ v.ownBlock ≠ some b) → w'.heap[b]? = w.heap[b]? := fun b hb => hg.block b hb.2.1 (fun e => hb.2.2 e.symm)
  exact ⟨by rw [List.length_append]; exact hown, RowA.snoc ((hA.keep k2).imp k) _ _ (RowA.keep k2 k _ _ h.row)⟩
theorem OwnA.form (h : OwnA w base lo v l xs) : ∃ a c, v = .slice a l.length c ∧ Lies w (fun b => (lo ≤ b ∨ base ≤ b) ∧ b < w.heap.size) (.lst l) (.iface 59 (.slice a l.length c)) := by
  rcases h.own.2 with ⟨rfl, h0⟩ | ⟨g, cap, cur, rfl, hb, hg, hn, hm, hr⟩
  · exact ⟨none, 0, by rw [h0], by simp only [Lies]; exact ⟨_, _, rfl, by omega, by omega, .inl (List.length_eq_zero_iff.1 h0)⟩⟩
  · have hm' : cap ≤ 9223372036854775807 := by unfold maxLen at hm; omega
    refine ⟨_, cap, rfl, ?_⟩
    simp only [Lies]
    refine ⟨_, _, rfl, hn, hm', .inr ⟨g, 0, rfl, ⟨.inr hb, (Array.getElem?_eq_some_iff.1 hg).1⟩, ?_⟩⟩
    refine RowA.liesL l xs g 0 (RowA.keep (fun _ _ => rfl) (fun b hB => ⟨.inl hB.1, hB.2.1⟩) _ _ h.row) fun j u hu => ?_
    have := World.ownsRow.cells h.own (g := g) rfl j u hu
    rwa [add_plain] at this
end
theorem any_info : (Try.prog.info? 20).map (fun i => (i.zero, i.size, i.bytes)) = some (some .nilIface, 1, 16) := by kernel_rfl

mutual
/-- A value as an any. -/
def toA : Tree → Anyv
  | .mk k n s l => if k = 1 then .num n else if k = 2 then .str s else .lst (toAL l)
def toAL : List Tree → List Anyv
  | [] => []
  | t :: r => toA t :: toAL r
end
theorem toA_eq (t : Tree) : toA t = if t.kind = 1 then .num t.num else if t.kind = 2 then .str t.text else .lst (toAL t.list) := by cases t; simp only [toA, kind, Tree.num, text, list]; rfl
theorem toAL_map (l : List Tree) : toAL l = l.map toA := by
  induction l with
  | nil => rfl
  | cons t l ih => simp only [toAL, List.map_cons, ih]
theorem toAL_take {l : List Tree} {k : Nat} (h : k < l.length) : toAL (l.take (k + 1)) = toAL (l.take k) ++ [toA l[k]] := by
  rw [toAL_map, toAL_map, List.take_succ_eq_append_getElem h, List.map_append]; rfl
theorem toAL_len (l : List Tree) : (toAL l).length = l.length := by rw [toAL_map, List.length_map]

theorem length_countL (l : List Tree) : l.length ≤ countL l := by
  induction l with
  | nil => simp
  | cons t l ih => have := count_eq t; simp only [countL, List.length_cons]; omega

def RetA (w : World) (t : Anyv) (e : Ending) (w' : World) : Prop := ∃ v, e = .returned v ∧ Lies w' (fun b => w.heap.size ≤ b ∧ b < w'.heap.size) t v ∧ Below w.heap.size w w'

set_option maxHeartbeats 4000000 in
theorem asAny_calls (N : Nat) : ∀ (t : Tree) (a : Option Addr) (c : Nat) (w : World), t.count ≤ N → N ≤ 1000000000 → At w (· < w.heap.size) t a c →
    Calls Try.prog 43 #[val t a c] w (RetA w (toA t)) := by
  induction N with
  | zero => intro t a c w h _ _; rw [count_eq] at h; omega
  | succ N ih =>
    intro t a c w hN hM hA
    obtain ⟨i0, hi0, hz0, hz1, hz2⟩ := info_parts any_info
    rw [at_eq] at hA
    rw [count_eq] at hN
    rw [toA_eq]
    obtain ⟨hc1, hc2, hl⟩ := hA
    unfold val
    obtain ⟨l, hL⟩ : ∃ l, t.list = l := ⟨_, rfl⟩
    rw [hL] at hc1 hl hN ⊢
    obtain ⟨n, hn⟩ : ∃ n, l.length = n := ⟨_, rfl⟩
    have HN := Lib.hid hn
    rw [hn] at hc1 ⊢
    generalize t.kind = k0
    generalize t.num = n0
    generalize t.text = s0
    have hnl : n ≤ countL l := by rw [← hn]; exact length_countL l
    have HCL := Lib.hid hN
    have hn1 : n ≤ 1000000000 := by omega
    clear hL hn hN hnl
    by_cases e1 : k0 = 1
    · subst e1
      rw [if_pos rfl]
      go_enter Try.func43, Try.ntmps43
      go_wp2_with fail
      go_ret
      exact ⟨_, rfl, by simp only [Lies]; rfl, (Below.refl _ _).alloc (Nat.le_refl _) _⟩
    · by_cases e2 : k0 = 2
      · subst e2
        rw [if_neg (by omega), if_pos rfl]
        go_enter Try.func43, Try.ntmps43
        go_wp2_with fail
        go_ret
        exact ⟨_, rfl, by simp only [Lies]; rfl, (Below.refl _ _).alloc (Nat.le_refl _) _⟩
      · rw [if_neg e1, if_neg e2]
        have b1 : (k0 == 1) = false := by simpa using e1
        have b2 : (k0 == 2) = false := by simpa using e2
        clear e1 e2
        go_enter Try.func43, Try.ntmps43
        go_wp2_with (first
          | (refine wpList_make_own _ rfl (.const (.int .i64 0)) (.tmp 20) 59 rfl (w.heap.size) 20 i0 _ 1 Try.underlying59 hi0 hz0 hz1 .i64 .i64 (n : Int) n rfl rfl rfl (by rw [hz2]; omega) (by simp only [maxLen]; omega) (by simp) ?_
             intro w2 hown2 hg2
             have hbk : Blk w2 w.heap.size 26 #[.int .i64 k0, .int .i64 n0, .string s0, .slice a n c] := boxed.grown hg2 (by simp)
             have hb3 := hbk.c3
             have HB2 : Hid (Below w.heap.size w w2) := ((Below.refl _ _).alloc (Nat.le_refl _) _).grown hg2 (by simp) (by simp)
             have HO2 : Hid (OwnA w2 w.heap.size w.heap.size (.slice (some ⟨w.heap.size + 1, 0, none⟩) 0 n) [] []) := ⟨by simpa using hown2, rfl⟩
             clear hown2 hg2 hbk))
        go_loopw [3, 25] (fun u i wr => ∃ (q : Nat) (v' : Value) (xs : List Value), q ≤ n ∧ i = .int .i64 (q : Nat) ∧ v' = u ∧ OwnA wr w.heap.size w.heap.size v' (toAL (l.take q)) xs ∧ Below w.heap.size w wr) (fun _ i _ => n - (intOf i).toNat)
        case atStart => exact ⟨0, _, [], Nat.zero_le _, rfl, rfl, by simpa [toAL] using HO2.out, HB2.out⟩
        case round =>
          obtain ⟨q, v', xs, hq, rfl, rfl, hO', hbl⟩ := hrel
          have HO' := Lib.hid hO'
          have HBW := Lib.hid hbl
          have hsz := hbl.size
          clear hO' hbl
          by_cases hlt : q < n
          · rcases hl with h0 | ⟨b, off, rfl, hb, hAL⟩
            · rw [h0] at HN; have := HN.out; simp at this; omega
            have hq' : q < l.length := by rw [HN.out]; exact hlt
            obtain ⟨a', c', e0, e1, e2, e3, hAt⟩ := AtL.get l b off hAL q hq'
            have cell : ∀ o v, w.cell? ⟨b, o, none⟩ = some v → wr.cell? ⟨b, o, none⟩ = some v := fun o v h => (HBW.out.cell (p := ⟨b, o, none⟩) hb).trans h
            have f0 := cell _ _ e0
            have f1 := cell _ _ e1
            have f2 := cell _ _ e2
            have f3 := cell _ _ e3
            have hct := countL_take hq'
            have hcl2 := countL_le l (q + 1)
            have HIH : Hid (∀ W, W = wr.alloc (.cells #[.int .i64 l[q].kind, .int .i64 l[q].num, .string l[q].text, .slice a' l[q].list.length c'] 26) → Calls Try.prog 43 #[val l[q] a' c'] W (RetA W (toA l[q]))) := fun W e => by
              subst e
              exact ih _ _ _ _ (by have := HCL.out; omega) (by omega) ((hAt.below (HBW.out.alloc (by omega) _)).more (by simp; omega))
            have HQL : Hid ((toAL (l.take q)).length = q) := by unfold Hid; rw [toAL_len, List.length_take]; omega
            have HQT := Lib.hid (toAL_take hq')
            unfold val at HIH
            clear hAL e0 e1 e2 e3 hAt cell hct hcl2
            go_wp2_with fail
            refine (HIH.out _ rfl).mono ?_
            rintro e w2 ⟨v5, rfl, hL5, hb5⟩
            obtain ⟨T5, x5, rfl⟩ := hL5.iface
            have HL5 := Lib.hid hL5
            have HB5 := Lib.hid hb5
            have hs5 := hb5.size
            simp only [size_alloc] at hs5
            have HO5 : Hid (OwnA w2 w.heap.size w.heap.size v' (toAL (l.take q)) xs) := (HO'.out.alloc _).below hb5
            have HW5 : Hid (Below w.heap.size w w2) := (HBW.out.alloc hsz _).trans (hb5.mono (by simp; omega))
            have hs6 := HW5.out.size
            clear hL5 hb5
            go_wp2_with (first
              | (at_builtin
                 refine wpList_append_any _ rfl (.tmp 29) (.tmp 32) _ rfl w.heap.size 20 i0 _ 1 16 Try.underlying59 hi0 hz0 hz1 hz2 rfl (by omega) v' q xs rfl
                   (by have := (HO5.out.alloc (Obj.cells #[.iface T5 x5] 20)).own; rw [HQL.out] at this; exact this) (w2.heap.size + 1) (some ⟨w2.heap.size, 0, none⟩) 1 1 [.iface T5 x5] rfl ⟨rfl, fun _ => ⟨_, rfl, by show w2.heap.size < w2.heap.size + 1; omega, fun i u hu => by
                     obtain rfl : i = 0 := by cases i with
                       | zero => rfl
                       | succ i => simp at hu
                     rw [add_plain, cell_new rfl]; simpa using hu⟩⟩ (by intro u hu; simp at hu; subst hu; rfl) (by simp only [maxLen]; omega) (by omega) (by simp; omega) ?_
                 intro v6 w6 hown6 hg6 hat6))
            have hfin : OwnA w6 w.heap.size w.heap.size v6 (toAL (l.take q) ++ [toA l[q]]) (xs ++ [.iface T5 x5]) := by
              refine (HO5.out.alloc (Obj.cells #[.iface T5 x5] 20)).push ?_ (by rw [HQL.out]; exact hown6) hg6 hat6
              refine (HL5.out.keep fun b hb => ((Below.refl _ _).alloc (Nat.le_refl _) _ : Below w2.heap.size w2 _).block b hb.2).imp fun b hb => ⟨?_, ?_, fun e => ?_⟩
              · have := hb.1; simp at this; omega
              · have := hb.2; simp; omega
              · have h1 := (HO'.out.own.lt _ e).2; have h2 := hb.1; simp at h2; omega
            rw [← HQT.out] at hfin
            have HFIN := Lib.hid hfin
            have HW6 : Hid (Below w.heap.size w w6) := (HW5.out.alloc hs6 _).grown hg6 (by simp; omega) (fun k hk => (HO5.out.own.lt k hk).1)
            clear hfin hown6 hg6 hat6
            go_wp2_with fail
            go_roundw
            case rel => exact ⟨q + 1, v6, _, by omega, by go_num, rfl, HFIN.out, HW6.out⟩
            case measure => simp [intOf]; omega
          · obtain rfl : q = n := by omega
            have HF : Hid (OwnA wr w.heap.size w.heap.size v' (toAL l) xs) := by
              have := HO'.out
              rw [List.take_of_length_le (by rw [HN.out]; exact Nat.le_refl _)] at this
              exact this
            obtain ⟨a6, c6, hv6, hL6⟩ := HF.out.form
            have HL6 : Hid (Lies wr (fun b => w.heap.size ≤ b ∧ b < wr.heap.size) (.lst (toAL l)) (.iface 59 v')) := by
              unfold Hid; rw [hv6]; exact hL6.imp fun b hb => ⟨by rcases hb.1 with h | h <;> exact h, hb.2⟩
            clear hv6 hL6
            go_wp2_with fail
            go_ret
            exact ⟨_, rfl, HL6.out, HBW.out⟩
end Go.Proofs.Ytkmikpmbnfcbpaa
