/- Contracts of Ints, Texts, typed. -/
import Derived.Test.YtkmikpmbnfcbpaaGl
namespace Go.Proofs.Ytkmikpmbnfcbpaa
open Go.RowKit Go.Lib
set_option linter.unusedVariables false
open Tree Anyv

set_option maxHeartbeats 1000000 in
theorem ints26_err (t : Tree) (a : Option Addr) (c : Nat) (w : World) (r : Int) (hA : At w (· < w.heap.size) t a c) (h : (¬ Fits t 20 ∧ r = 2) ∨ (Fits t 20 ∧ t.kind ≠ 3 ∧ r = 20) ∨ (Fits t 20 ∧ t.kind = 3 ∧ (¬ ∀ (i : Nat) (h : i < t.list.length), t.list[i].kind = 1) ∧ r = 20)) :
    Calls Try.prog 26 #[val t a c] w (Ret1 w (.tuple #[.slice none 0 0, .int .i64 r])) := by
  have hA1 : At (w.alloc (.cells #[.int .i64 t.kind, .int .i64 t.num, .string t.text, .slice a t.list.length c] 26)) (· < (w.alloc (.cells #[.int .i64 t.kind, .int .i64 t.num, .string t.text, .slice a t.list.length c] 26)).heap.size) t a c := (hA.below ((Below.refl _ _).alloc (Nat.le_refl _) _)).more (by simp)
  have HC : Hid (Calls Try.prog 50 #[val t a c] (w.alloc (.cells #[.int .i64 t.kind, .int .i64 t.num, .string t.text, .slice a t.list.length c] 26)) (Ret1 (w.alloc (.cells #[.int .i64 t.kind, .int .i64 t.num, .string t.text, .slice a t.list.length c] 26)) (.tuple #[.slice none 0 0, .int .i64 r]))) := by
    rcases h with h | h | ⟨h1, h2, h3, rfl⟩
    · exact all50_err t a c _ r hA1 (.inl h)
    · exact all50_err t a c _ r hA1 (.inr h)
    · exact (all50_lst t a c _ hA1 h1 h2).mono fun e w' h => ⟨h.2.1 h3, h.1⟩
  unfold val at HC ⊢
  clear h hA hA1
  go_enter Try.func26, Try.ntmps26
  go_wp2_with fail
  refine HC.out.mono ?_
  rintro e w2 ⟨rfl, hb⟩
  have HB : Hid (Below w.heap.size w w2) := ((Below.refl _ _).alloc (Nat.le_refl _) _).trans (hb.mono (by simp))
  clear hb
  go_wp2_with fail
  go_ret2
  exact ⟨rfl, HB.out⟩
set_option maxHeartbeats 1000000 in
theorem ints26_yes (t : Tree) (a : Option Addr) (c : Nat) (w : World) (hA : At w (· < w.heap.size) t a c) (h : Fits t 20) (h2 : t.kind = 3) (h3 : ∀ (i : Nat) (h : i < t.list.length), t.list[i].kind = 1) :
    Calls Try.prog 26 #[val t a c] w fun e w' => ∃ v, e = .returned (.tuple #[v, .int .i64 0]) ∧ w'.ownsRow w.heap.size 3 1 v t.list.length (t.list.map fun u => .int .i64 u.num) ∧ Below w.heap.size w w' := by
  have hA1 : At (w.alloc (.cells #[.int .i64 t.kind, .int .i64 t.num, .string t.text, .slice a t.list.length c] 26)) (· < (w.alloc (.cells #[.int .i64 t.kind, .int .i64 t.num, .string t.text, .slice a t.list.length c] 26)).heap.size) t a c := (hA.below ((Below.refl _ _).alloc (Nat.le_refl _) _)).more (by simp)
  have HC : Hid (Calls Try.prog 50 #[val t a c] (w.alloc (.cells #[.int .i64 t.kind, .int .i64 t.num, .string t.text, .slice a t.list.length c] 26)) fun e w' => ∃ v, e = .returned (.tuple #[v, .int .i64 0]) ∧ w'.ownsRow w.heap.size 3 1 v t.list.length (t.list.map fun u => .int .i64 u.num) ∧ Below w.heap.size w w') :=
    (all50_lst t a c _ hA1 h h2).mono fun e w' h => by
      obtain ⟨v, h4, h5⟩ := h.2.2 h3
      exact ⟨v, h4, h5.base (by simp), ((Below.refl _ _).alloc (Nat.le_refl _) _).trans (h.1.mono (by simp))⟩
  unfold val at HC ⊢
  clear h hA hA1 h2 h3
  go_enter Try.func26, Try.ntmps26
  go_wp2_with fail
  refine HC.out.mono ?_
  rintro e w2 ⟨v, rfl, hO, hb⟩
  have HB := Lib.hid hb
  have HO := Lib.hid hO
  clear hb hO
  go_wp2_with fail
  go_ret2
  exact ⟨v, rfl, HO.out, HB.out⟩

set_option maxHeartbeats 1000000 in
theorem texts27_err (t : Tree) (a : Option Addr) (c : Nat) (w : World) (r : Int) (hA : At w (· < w.heap.size) t a c) (h : (¬ Fits t 20 ∧ r = 2) ∨ (Fits t 20 ∧ t.kind ≠ 3 ∧ r = 20) ∨ (Fits t 20 ∧ t.kind = 3 ∧ (¬ ∀ (i : Nat) (h : i < t.list.length), t.list[i].kind = 2) ∧ r = 20)) :
    Calls Try.prog 27 #[val t a c] w (Ret1 w (.tuple #[.slice none 0 0, .int .i64 r])) := by
  have hA1 : At (w.alloc (.cells #[.int .i64 t.kind, .int .i64 t.num, .string t.text, .slice a t.list.length c] 26)) (· < (w.alloc (.cells #[.int .i64 t.kind, .int .i64 t.num, .string t.text, .slice a t.list.length c] 26)).heap.size) t a c := (hA.below ((Below.refl _ _).alloc (Nat.le_refl _) _)).more (by simp)
  have HC : Hid (Calls Try.prog 51 #[val t a c] (w.alloc (.cells #[.int .i64 t.kind, .int .i64 t.num, .string t.text, .slice a t.list.length c] 26)) (Ret1 (w.alloc (.cells #[.int .i64 t.kind, .int .i64 t.num, .string t.text, .slice a t.list.length c] 26)) (.tuple #[.slice none 0 0, .int .i64 r]))) := by
    rcases h with h | h | ⟨h1, h2, h3, rfl⟩
    · exact all51_err t a c _ r hA1 (.inl h)
    · exact all51_err t a c _ r hA1 (.inr h)
    · exact (all51_lst t a c _ hA1 h1 h2).mono fun e w' h => ⟨h.2.1 h3, h.1⟩
  unfold val at HC ⊢
  clear h hA hA1
  go_enter Try.func27, Try.ntmps27
  go_wp2_with fail
  refine HC.out.mono ?_
  rintro e w2 ⟨rfl, hb⟩
  have HB : Hid (Below w.heap.size w w2) := ((Below.refl _ _).alloc (Nat.le_refl _) _).trans (hb.mono (by simp))
  clear hb
  go_wp2_with fail
  go_ret2
  exact ⟨rfl, HB.out⟩
set_option maxHeartbeats 1000000 in
theorem texts27_yes (t : Tree) (a : Option Addr) (c : Nat) (w : World) (hA : At w (· < w.heap.size) t a c) (h : Fits t 20) (h2 : t.kind = 3) (h3 : ∀ (i : Nat) (h : i < t.list.length), t.list[i].kind = 2) :
    Calls Try.prog 27 #[val t a c] w fun e w' => ∃ v, e = .returned (.tuple #[v, .int .i64 0]) ∧ w'.ownsRow w.heap.size 9 1 v t.list.length (t.list.map fun u => .string u.text) ∧ Below w.heap.size w w' := by
  have hA1 : At (w.alloc (.cells #[.int .i64 t.kind, .int .i64 t.num, .string t.text, .slice a t.list.length c] 26)) (· < (w.alloc (.cells #[.int .i64 t.kind, .int .i64 t.num, .string t.text, .slice a t.list.length c] 26)).heap.size) t a c := (hA.below ((Below.refl _ _).alloc (Nat.le_refl _) _)).more (by simp)
  have HC : Hid (Calls Try.prog 51 #[val t a c] (w.alloc (.cells #[.int .i64 t.kind, .int .i64 t.num, .string t.text, .slice a t.list.length c] 26)) fun e w' => ∃ v, e = .returned (.tuple #[v, .int .i64 0]) ∧ w'.ownsRow w.heap.size 9 1 v t.list.length (t.list.map fun u => .string u.text) ∧ Below w.heap.size w w') :=
    (all51_lst t a c _ hA1 h h2).mono fun e w' h => by
      obtain ⟨v, h4, h5⟩ := h.2.2 h3
      exact ⟨v, h4, h5.base (by simp), ((Below.refl _ _).alloc (Nat.le_refl _) _).trans (h.1.mono (by simp))⟩
  unfold val at HC ⊢
  clear h hA hA1 h2 h3
  go_enter Try.func27, Try.ntmps27
  go_wp2_with fail
  refine HC.out.mono ?_
  rintro e w2 ⟨v, rfl, hO, hb⟩
  have HB := Lib.hid hb
  have HO := Lib.hid hO
  clear hb hO
  go_wp2_with fail
  go_ret2
  exact ⟨v, rfl, HO.out, HB.out⟩

namespace Anyv
mutual
def size : Anyv → Nat
  | .num _ => 1
  | .str _ => 1
  | .flag _ => 1
  | .lst l => 1 + sizeL l
def sizeL : List Anyv → Nat
  | [] => 0
  | t :: r => size t + sizeL r
end
theorem sizeL_get : ∀ (l : List Anyv) (i : Nat) (h : i < l.length), size l[i] ≤ sizeL l := by
  intro l
  induction l with
  | nil => intro i h; simp at h
  | cons t r ih =>
    intro i h
    simp only [sizeL]
    cases i with
    | zero => simp
    | succ i => have := ih i (by simpa using h); simp only [List.getElem_cons_succ]; omega
mutual
/-- What typed answers, so deep. -/
def Ty : Nat → Anyv → Prop
  | _, .num _ => True
  | _, .str _ => True
  | _, .flag _ => False
  | d, .lst l => 200 < d ∨ TyL (d + 1) l
def TyL : Nat → List Anyv → Prop
  | _, [] => True
  | d, t :: r => Ty d t ∧ TyL d r
end
theorem tyL_iff {d : Nat} : ∀ (l : List Anyv), TyL d l ↔ ∀ (i : Nat) (h : i < l.length), Ty d l[i] := by
  intro l
  induction l with
  | nil => simp [TyL]
  | cons t r ih =>
    simp only [TyL, ih]
    constructor
    · rintro ⟨h1, h2⟩ i hi
      cases i with
      | zero => exact h1
      | succ i => exact h2 i (by simpa using hi)
    · intro h
      exact ⟨h 0 (by simp), fun i hi => h (i + 1) (by simpa using hi)⟩
end Anyv

set_option maxHeartbeats 4000000 in
theorem typed_calls (N : Nat) : ∀ (t : Anyv) (d : Nat) (v : Value) (w : World), t.size ≤ N → d ≤ 1000 → Lies w (· < w.heap.size) t v →
    Calls Try.prog 45 #[v, .int .i64 d] w (RetQ w (Ty d t)) := by
  induction N with
  | zero => intro t d v w h _ _; cases t <;> simp [Anyv.size] at h
  | succ N ih =>
    intro t d v w hN hd hL
    cases t with
    | num n =>
      simp only [Lies] at hL
      subst hL
      have hx := ta_int_int (.int .i64 n)
      go_enter Try.func45, Try.ntmps45
      go_wp2_with fail
      go_ret
      exact retQ_yes (by simp only [Ty]) (Below.refl _ _)
    | str s =>
      simp only [Lies] at hL
      subst hL
      have hx := ta_str_int (.string s)
      have hx2 := ta_str_str (.string s)
      go_enter Try.func45, Try.ntmps45
      go_wp2_with fail
      go_ret
      exact retQ_yes (by simp only [Ty]) (Below.refl _ _)
    | flag b =>
      simp only [Lies] at hL
      subst hL
      have hx := ta_flg_int (.bool b)
      have hx2 := ta_flg_str (.bool b)
      have hx3 := ta_flg_lst (.bool b)
      go_enter Try.func45, Try.ntmps45
      go_wp2_with fail
      go_ret
      exact retQ_no (by simp only [Ty]; exact fun h => h) (Below.refl _ _)
    | lst l =>
      simp only [Lies] at hL
      obtain ⟨a, c, rfl, h1, h2, h3⟩ := hL
      have H3 := Lib.hid h3
      simp only [Anyv.size] at hN
      have HSZ := Lib.hid hN
      have hpe : Ty d (.lst l) ↔ (200 < d ∨ ∀ (i : Nat) (h : i < l.length), Ty (d + 1) l[i]) := by simp only [Ty, tyL_iff]
      obtain ⟨p, hp⟩ : ∃ p, p = Ty d (.lst l) := ⟨_, rfl⟩
      rw [← hp] at hpe ⊢
      have HPE := Lib.hid hpe
      obtain ⟨n, hn⟩ : ∃ n, l.length = n := ⟨_, rfl⟩
      have HN := Lib.hid hn
      rw [hn] at h1 ⊢
      have hx := ta_lst_int (.slice a n c)
      have hx2 := ta_lst_str (.slice a n c)
      have hx3 := ta_lst_lst (.slice a n c)
      clear h3 hN hpe hn hp
      by_cases hd2 : 200 < d
      · have HY : Hid p := HPE.out.2 (.inl hd2)
        go_enter Try.func45, Try.ntmps45
        go_wp2_with fail
        go_ret
        exact retQ_yes HY.out (Below.refl _ _)
      · go_enter Try.func45, Try.ntmps45
        go_wp2_with fail
        go_loopw [36] (fun i wr => ∃ q, q ≤ n ∧ i = .int .i64 (q : Nat) ∧ (∀ j (hj : j < l.length), j < q → Ty (d + 1) l[j]) ∧ Below w.heap.size w wr) (fun i _ => n - (intOf i).toNat)
        case atStart => exact ⟨0, Nat.zero_le _, rfl, fun j _ hj => by omega, Below.refl _ _⟩
        case round =>
          obtain ⟨q, hq, rfl, hm, hbl⟩ := hrel
          have HMM := Lib.hid hm
          have HBL := Lib.hid hbl
          have hsz := hbl.size
          clear hm hbl
          by_cases hlt : q < n
          · rcases H3.out with h0 | ⟨b, off, rfl, hb, hLL⟩
            · rw [h0] at HN; have := HN.out; simp at this; omega
            have hq' : q < l.length := by rw [HN.out]; exact hlt
            obtain ⟨u, hu1, hu2⟩ := LiesL.get l b off hLL q hq'
            have hcell : wr.cell? ⟨b, off + q, none⟩ = some u := (HBL.out.cell (p := ⟨b, off + q, none⟩) hb).trans hu1
            have HIH : Hid (∀ W, W = wr → Calls Try.prog 45 #[u, .int .i64 ((d : Int) + 1)] W (RetQ W (Ty (d + 1) l[q]))) := fun W e => by
              subst e
              have := ih l[q] (d + 1) u W (by have := HSZ.out; have := sizeL_get l q hq'; omega) (by omega) ((hu2.below HBL.out).more hsz)
              simpa using this
            have HQ' := Lib.hid hq'
            clear hLL hu1 hu2
            go_wp2_with fail
            refine (HIH.out _ rfl).mono ?_
            rintro e w2 ⟨br, rfl, hbr, hb2⟩
            have HB2 : Hid (Below w.heap.size w w2) := HBL.out.trans (hb2.mono hsz)
            have HBR := Lib.hid hbr
            clear hb2 hbr
            cases br with
            | true =>
              go_wp2_with fail
              go_roundw
              case rel => exact ⟨q + 1, by omega, by go_num, fun j hj hjq => by
                rcases Nat.lt_or_ge j q with h | h
                · exact HMM.out j hj h
                · have e : j = q := by omega
                  subst e
                  exact HBR.out.1 (by simp), HB2.out⟩
              case measure => simp [intOf]; omega
            | false =>
              have hno : ¬ p := fun hp => by
                rcases HPE.out.1 hp with h | h
                · omega
                · have := HBR.out.2 (h q HQ'.out)
                  simp at this
              have HNO := Lib.hid hno
              clear hno
              go_wp2_with fail
              try rw [Exit.noGoto_ret]
              go_ret
              exact retQ_no HNO.out HB2.out
          · obtain rfl : q = n := by omega
            have hyes : p := HPE.out.2 (.inr fun j hj => HMM.out j hj (by rw [← HN.out]; exact hj))
            have HYES := Lib.hid hyes
            clear hyes
            go_wp2_with fail
            go_ret
            exact retQ_yes HYES.out HBL.out
end Go.Proofs.Ytkmikpmbnfcbpaa
