/- Contracts of Any, list, Ints, Texts. -/
import Derived.Test.YtkmikpmbnfcbpaaGk
namespace Go.Proofs.Ytkmikpmbnfcbpaa
open Go.RowKit Go.Lib
set_option linter.unusedVariables false
open Tree Anyv

theorem ta_int_int (x : Value) (w : World) : (Instr.typeAssert (.iface 3 x) 20 3 true).run Try.prog w = .ok (.tuple #[x, .bool true]) w := by kernel_rfl
theorem ta_int_str (x : Value) (w : World) : (Instr.typeAssert (.iface 3 x) 20 9 true).run Try.prog w = .ok (.tuple #[.string ⟨#[]⟩, .bool false]) w := by kernel_rfl
theorem ta_int_lst (x : Value) (w : World) : (Instr.typeAssert (.iface 3 x) 20 59 true).run Try.prog w = .ok (.tuple #[.slice none 0 0, .bool false]) w := by kernel_rfl
theorem ta_str_int (x : Value) (w : World) : (Instr.typeAssert (.iface 9 x) 20 3 true).run Try.prog w = .ok (.tuple #[.int .i64 0, .bool false]) w := by kernel_rfl
theorem ta_str_str (x : Value) (w : World) : (Instr.typeAssert (.iface 9 x) 20 9 true).run Try.prog w = .ok (.tuple #[x, .bool true]) w := by kernel_rfl
theorem ta_str_lst (x : Value) (w : World) : (Instr.typeAssert (.iface 9 x) 20 59 true).run Try.prog w = .ok (.tuple #[.slice none 0 0, .bool false]) w := by kernel_rfl
theorem ta_lst_int (x : Value) (w : World) : (Instr.typeAssert (.iface 59 x) 20 3 true).run Try.prog w = .ok (.tuple #[.int .i64 0, .bool false]) w := by kernel_rfl
theorem ta_lst_str (x : Value) (w : World) : (Instr.typeAssert (.iface 59 x) 20 9 true).run Try.prog w = .ok (.tuple #[.string ⟨#[]⟩, .bool false]) w := by kernel_rfl
theorem ta_lst_lst (x : Value) (w : World) : (Instr.typeAssert (.iface 59 x) 20 59 true).run Try.prog w = .ok (.tuple #[x, .bool true]) w := by kernel_rfl
theorem ta_flg_int (x : Value) (w : World) : (Instr.typeAssert (.iface 4 x) 20 3 true).run Try.prog w = .ok (.tuple #[.int .i64 0, .bool false]) w := by kernel_rfl
theorem ta_flg_str (x : Value) (w : World) : (Instr.typeAssert (.iface 4 x) 20 9 true).run Try.prog w = .ok (.tuple #[.string ⟨#[]⟩, .bool false]) w := by kernel_rfl
theorem ta_flg_lst (x : Value) (w : World) : (Instr.typeAssert (.iface 4 x) 20 59 true).run Try.prog w = .ok (.tuple #[.slice none 0 0, .bool false]) w := by kernel_rfl

set_option maxHeartbeats 1000000 in
theorem any19_no (t : Tree) (a : Option Addr) (c : Nat) (w : World) (hA : At w (· < w.heap.size) t a c) (hf : ¬ Fits t 20) :
    Calls Try.prog 19 #[val t a c] w (Ret1 w (.tuple #[.nilIface, .int .i64 2])) := by
  have HC : Hid (∀ W, W = w.alloc (.cells #[.int .i64 t.kind, .int .i64 t.num, .string t.text, .slice a t.list.length c] 26) → Calls Try.prog 24 #[val t a c] W (Ret1 W (.int .i64 2))) := fun W e => by
    subst e
    exact check24 t a c _ 2 ((hA.below ((Below.refl _ _).alloc (Nat.le_refl _) _)).more (by simp)) (.inr ⟨hf, rfl⟩)
  unfold val at HC ⊢
  clear hf hA
  go_enter Try.func19, Try.ntmps19
  go_wp2_with fail
  refine (HC.out _ rfl).mono ?_
  rintro e w2 ⟨rfl, hb⟩
  have HB : Hid (Below w.heap.size w w2) := ((Below.refl _ _).alloc (Nat.le_refl _) _).trans (hb.mono (by simp))
  clear hb
  go_wp2_with fail
  go_ret2
  exact ⟨rfl, HB.out⟩

set_option maxHeartbeats 1000000 in
theorem any19_yes (t : Tree) (a : Option Addr) (c : Nat) (w : World) (hA : At w (· < w.heap.size) t a c) (hf : Fits t 20) :
    Calls Try.prog 19 #[val t a c] w fun e w' => ∃ v, e = .returned (.tuple #[v, .int .i64 0]) ∧ Lies w' (fun b => w.heap.size ≤ b ∧ b < w'.heap.size) (toA t) v ∧ Below w.heap.size w w' := by
  have HC : Hid (∀ W, W = w.alloc (.cells #[.int .i64 t.kind, .int .i64 t.num, .string t.text, .slice a t.list.length c] 26) → Calls Try.prog 24 #[val t a c] W (Ret1 W (.int .i64 0))) := fun W e => by
    subst e
    exact check24 t a c _ 0 ((hA.below ((Below.refl _ _).alloc (Nat.le_refl _) _)).more (by simp)) (.inl ⟨hf, rfl⟩)
  have HA := Lib.hid hA
  have HF := Lib.hid hf
  have HE : Hid (∀ W, Below w.heap.size w W → Calls Try.prog 43 #[val t a c] W (RetA W (toA t))) := fun W hb =>
    asAny_calls t.count t a c W (Nat.le_refl _) (by have := HF.out.2.2; omega) ((HA.out.below hb).more hb.size)
  unfold val at HC HE ⊢
  clear hf hA
  go_enter Try.func19, Try.ntmps19
  go_wp2_with fail
  refine (HC.out _ rfl).mono ?_
  rintro e w2 ⟨rfl, hb⟩
  have HB : Hid (Below w.heap.size w w2) := ((Below.refl _ _).alloc (Nat.le_refl _) _).trans (hb.mono (by simp))
  have hbx := boxed.below (B := w.heap.size + 1) (by simpa using hb) (by omega)
  have hb0 := hbx.c0
  have hb1 := hbx.c1
  have hb2 := hbx.c2
  have hb3 := hbx.c3
  clear hb hbx
  go_wp2_with fail
  refine (HE.out w2 HB.out).mono ?_
  rintro e w3 ⟨v, rfl, hL, hb3⟩
  have HL := Lib.hid hL
  have HB3 : Hid (Below w.heap.size w w3) := HB.out.trans (hb3.mono HB.out.size)
  obtain ⟨T, x, rfl⟩ := hL.iface
  clear hL hb3
  go_wp2_with fail
  go_ret2
  exact ⟨_, rfl, HL.out.imp fun b hb => ⟨Nat.le_trans HB.out.size hb.1, hb.2⟩, HB3.out⟩

set_option maxHeartbeats 1000000 in
theorem list57_err (t : Tree) (a : Option Addr) (c : Nat) (w : World) (r : Int) (hA : At w (· < w.heap.size) t a c) (h : (¬ Fits t 20 ∧ r = 2) ∨ (Fits t 20 ∧ t.kind ≠ 3 ∧ r = 20)) :
    Calls Try.prog 57 #[val t a c] w (Ret1 w (.tuple #[.slice none 0 0, .int .i64 r])) := by
  have hA1 : At (w.alloc (.cells #[.int .i64 t.kind, .int .i64 t.num, .string t.text, .slice a t.list.length c] 26)) (· < (w.alloc (.cells #[.int .i64 t.kind, .int .i64 t.num, .string t.text, .slice a t.list.length c] 26)).heap.size) t a c := (hA.below ((Below.refl _ _).alloc (Nat.le_refl _) _)).more (by simp)
  rcases h with ⟨hf, rfl⟩ | ⟨hf, hk, rfl⟩
  · have HC := Lib.hid (any19_no t a c _ hA1 hf)
    unfold val at HC ⊢
    clear hf hA hA1
    go_enter Try.func57, Try.ntmps57
    go_wp2_with fail
    refine HC.out.mono ?_
    rintro e w2 ⟨rfl, hb⟩
    have HB : Hid (Below w.heap.size w w2) := ((Below.refl _ _).alloc (Nat.le_refl _) _).trans (hb.mono (by simp))
    clear hb
    go_wp2_with fail
    go_ret2
    exact ⟨rfl, HB.out⟩
  · have HC := Lib.hid (any19_yes t a c _ hA1 hf)
    have hk3 := (right_eq t).1 hf.1
    have hkk : t.kind = 1 ∨ t.kind = 2 := by rcases hk3.1.1 with h | h | h <;> omega
    have hta : toA t = .num t.num ∨ toA t = .str t.text := by
      rw [toA_eq]
      rcases hkk with h | h
      · left; rw [if_pos h]
      · right; rw [if_neg (by omega), if_pos h]
    unfold val at HC ⊢
    clear hf hA hA1 hk hk3 hkk
    go_enter Try.func57, Try.ntmps57
    go_wp2_with fail
    refine HC.out.mono ?_
    rintro e w2 ⟨v, rfl, hL, hb⟩
    have HB : Hid (Below w.heap.size w w2) := ((Below.refl _ _).alloc (Nat.le_refl _) _).trans (hb.mono (by simp))
    clear hb
    rcases hta with h | h
    · rw [h] at hL
      simp only [Lies] at hL
      subst hL
      have hx := ta_int_lst (.int .i64 t.num) w2
      clear h
      go_wp2_with fail
      go_ret2
      exact ⟨rfl, HB.out⟩
    · rw [h] at hL
      simp only [Lies] at hL
      subst hL
      have hx := ta_str_lst (.string t.text) w2
      clear h
      go_wp2_with fail
      go_ret2
      exact ⟨rfl, HB.out⟩

set_option maxHeartbeats 1000000 in
theorem list57_yes (t : Tree) (a : Option Addr) (c : Nat) (w : World) (hA : At w (· < w.heap.size) t a c) (hf : Fits t 20) (hk : t.kind = 3) :
    Calls Try.prog 57 #[val t a c] w fun e w' => ∃ a' c', e = .returned (.tuple #[.slice a' t.list.length c', .int .i64 0]) ∧ t.list.length ≤ c' ∧ c' ≤ 9223372036854775807 ∧
      (t.list = [] ∨ ∃ b off, a' = some ⟨b, off, none⟩ ∧ b < w'.heap.size ∧ LiesL w' (· < w'.heap.size) (toAL t.list) b off) ∧ Below w.heap.size w w' := by
  have hA1 : At (w.alloc (.cells #[.int .i64 t.kind, .int .i64 t.num, .string t.text, .slice a t.list.length c] 26)) (· < (w.alloc (.cells #[.int .i64 t.kind, .int .i64 t.num, .string t.text, .slice a t.list.length c] 26)).heap.size) t a c := (hA.below ((Below.refl _ _).alloc (Nat.le_refl _) _)).more (by simp)
  have HC := Lib.hid (any19_yes t a c _ hA1 hf)
  have hta : toA t = .lst (toAL t.list) := by rw [toA_eq, if_neg (by omega), if_neg (by omega)]
  rw [hta] at HC
  have HN := Lib.hid (toAL_len t.list)
  have HNIL : Hid (toAL t.list = [] → t.list = []) := fun h => by have := HN.out; rw [h] at this; exact List.length_eq_zero_iff.1 this.symm
  unfold val at HC ⊢
  clear hf hA hA1 hk hta
  go_enter Try.func57, Try.ntmps57
  go_wp2_with fail
  refine HC.out.mono ?_
  rintro e w2 ⟨v, rfl, hL, hb⟩
  have HB : Hid (Below w.heap.size w w2) := ((Below.refl _ _).alloc (Nat.le_refl _) _).trans (hb.mono (by simp))
  clear hb
  simp only [Lies] at hL
  obtain ⟨a', c', rfl, h1, h2, h3⟩ := hL
  rw [HN.out] at h1 ⊢
  have hx := ta_lst_lst (.slice a' t.list.length c') w2
  have H3 : Hid (t.list = [] ∨ ∃ b off, a' = some ⟨b, off, none⟩ ∧ b < w2.heap.size ∧ LiesL w2 (· < w2.heap.size) (toAL t.list) b off) := by
    rcases h3 with h0 | ⟨b, off, e, hb, hL⟩
    · exact .inl (HNIL.out h0)
    · exact .inr ⟨b, off, e, hb.2, (lies_keep (fun _ _ => rfl) fun b hb => hb.2).2 _ _ _ hb hL⟩
  clear h3
  go_wp2_with fail
  go_ret2
  exact ⟨a', c', rfl, h1, h2, H3.out, HB.out⟩

/-- What Ints and Texts hand back of a list. -/
def RetI (w : World) (t : Tree) (k : Int) (E : TypeId) (f : Tree → Value) (e : Ending) (w' : World) : Prop :=
  Below w.heap.size w w' ∧ ((¬ ∀ (i : Nat) (h : i < t.list.length), t.list[i].kind = k) → e = .returned (.tuple #[.slice none 0 0, .int .i64 20])) ∧
    ((∀ (i : Nat) (h : i < t.list.length), t.list[i].kind = k) → ∃ v, e = .returned (.tuple #[v, .int .i64 0]) ∧ w'.ownsRow w.heap.size E 1 v t.list.length (t.list.map f))
theorem retI_no {w w' : World} {t : Tree} {k : Int} {E : TypeId} {f : Tree → Value} (hb : Below w.heap.size w w') (i : Nat) (h : i < t.list.length) (hk : t.list[i].kind ≠ k) : RetI w t k E f (.returned (.tuple #[.slice none 0 0, .int .i64 20])) w' :=
  ⟨hb, fun _ => rfl, fun hall => absurd (hall i h) hk⟩
theorem retI_yes {w w' : World} {t : Tree} {k : Int} {E : TypeId} {f : Tree → Value} {v : Value} (hb : Below w.heap.size w w') (h : ∀ (i : Nat) (h : i < t.list.length), t.list[i].kind = k) (ho : w'.ownsRow w.heap.size E 1 v t.list.length (t.list.map f)) :
    RetI w t k E f (.returned (.tuple #[v, .int .i64 0])) w' := ⟨hb, fun hn => absurd h hn, fun _ => ⟨v, rfl, ho⟩⟩
theorem map_take {l : List Tree} {k : Nat} (f : Tree → Value) (h : k < l.length) : (l.take (k + 1)).map f = (l.take k).map f ++ [f l[k]] := by
  rw [List.take_succ_eq_append_getElem h, List.map_append]; rfl
theorem int_info : (Try.prog.info? 3).map (fun i => (i.zero, i.size, i.bytes)) = some (some (.int .i64 0), 1, 8) := by kernel_rfl
theorem str_info : (Try.prog.info? 9).map (fun i => (i.zero, i.size, i.bytes)) = some (some (.string ⟨#[]⟩), 1, 16) := by kernel_rfl

set_option maxHeartbeats 1000000 in
theorem all50_err (t : Tree) (a : Option Addr) (c : Nat) (w : World) (r : Int) (hA : At w (· < w.heap.size) t a c) (h : (¬ Fits t 20 ∧ r = 2) ∨ (Fits t 20 ∧ t.kind ≠ 3 ∧ r = 20)) :
    Calls Try.prog 50 #[val t a c] w (Ret1 w (.tuple #[.slice none 0 0, .int .i64 r])) := by
  have HC := Lib.hid (list57_err t a c (w.alloc (.cells #[.int .i64 t.kind, .int .i64 t.num, .string t.text, .slice a t.list.length c] 26)) r ((hA.below ((Below.refl _ _).alloc (Nat.le_refl _) _)).more (by simp)) h)
  unfold val at HC ⊢
  clear h hA
  go_enter Try.func50, Try.ntmps50
  go_wp2_with fail
  refine HC.out.mono ?_
  rintro e w2 ⟨rfl, hb⟩
  have HB : Hid (Below w.heap.size w w2) := ((Below.refl _ _).alloc (Nat.le_refl _) _).trans (hb.mono (by simp))
  clear hb
  go_wp2_with fail
  refine wp_loop_rounds 1 ?_
  rw [rounds_succ]
  go_wp2_with fail
  go_ret2
  exact ⟨rfl, HB.out⟩

set_option maxHeartbeats 4000000 in
theorem all50_lst (t : Tree) (a : Option Addr) (c : Nat) (w : World) (hA : At w (· < w.heap.size) t a c) (hf : Fits t 20) (hk : t.kind = 3) :
    Calls Try.prog 50 #[val t a c] w (RetI w t 1 3 (fun u => .int .i64 u.num)) := by
  obtain ⟨i0, hi0, hz0, hz1, hz2⟩ := info_parts int_info
  have HC := Lib.hid (list57_yes t a c (w.alloc (.cells #[.int .i64 t.kind, .int .i64 t.num, .string t.text, .slice a t.list.length c] 26)) ((hA.below ((Below.refl _ _).alloc (Nat.le_refl _) _)).more (by simp)) hf hk)
  have hRL := Lib.hid ((right_eq t).1 hf.1).2
  have hnl : t.list.length ≤ 20000 := by have := hf.2.2; have h2 := count_eq t; have h3 := length_countL t.list; omega
  have hR : ∀ w', Below w.heap.size w w' → ∀ i (h : i < t.list.length), t.list[i].kind ≠ 1 → RetI w t 1 3 (fun u => .int .i64 u.num) (.returned (.tuple #[.slice none 0 0, .int .i64 20])) w' := fun w' hb i h hk => retI_no hb i h hk
  have hY : ∀ w' v, Below w.heap.size w w' → (∀ i (h : i < t.list.length), t.list[i].kind = 1) → w'.ownsRow w.heap.size 3 1 v t.list.length (t.list.map (fun u => .int .i64 u.num)) → RetI w t 1 3 (fun u => .int .i64 u.num) (.returned (.tuple #[v, .int .i64 0])) w' := fun w' v hb h ho => retI_yes hb h ho
  unfold val at HC ⊢
  have HNO := Lib.hid hR
  have HYES := Lib.hid hY
  clear hf hA hk hR hY
  obtain ⟨l, hL⟩ : ∃ l, t.list = l := ⟨_, rfl⟩
  have HN := Lib.hid (toAL_len t.list)
  rw [hL] at HC hRL hnl HN ⊢
  simp only [hL] at HNO HYES
  obtain ⟨n, hn⟩ : ∃ n, l.length = n := ⟨_, rfl⟩
  have HLN := Lib.hid hn
  rw [hn] at HC hnl ⊢
  clear hn
  go_enter Try.func50, Try.ntmps50
  go_wp2_with fail
  refine HC.out.mono ?_
  rintro e w2 ⟨a', c', rfl, h1, h2, h3, hb⟩
  have HB : Hid (Below w.heap.size w w2) := ((Below.refl _ _).alloc (Nat.le_refl _) _).trans (hb.mono (by simp))
  have H3 := Lib.hid h3
  clear hb h3
  go_wp2_with fail
  go_loopw [6, 18] (fun u i wr => ∃ (q : Nat) (v : Value), q ≤ n ∧ i = .int .i64 (q : Nat) ∧ v = u ∧ wr.ownsRow w2.heap.size 3 1 v q ((l.take q).map fun u => .int .i64 u.num) ∧ (∀ j (hj : j < l.length), j < q → l[j].kind = 1) ∧ Below w2.heap.size w2 wr) (fun _ i _ => n - (intOf i).toNat)
  case atStart => exact ⟨0, _, Nat.zero_le _, rfl, rfl, World.ownsRow_nil _ _ _ _, fun j _ hj => by omega, Below.refl _ _⟩
  case round =>
    obtain ⟨q, v, hq, rfl, rfl, hO, hall, hbl⟩ := hrel
    have HO := Lib.hid hO
    have HALL := Lib.hid hall
    have HW := Lib.hid hbl
    have hsz := hbl.size
    have hsz0 := HB.out.size
    clear hO hall hbl
    by_cases hlt : q < n
    · rcases H3.out with h0 | ⟨b, off, rfl, hb, hLL⟩
      · rw [h0] at HLN; have := HLN.out; simp at this; omega
      have hq' : q < l.length := by rw [HLN.out]; exact hlt
      obtain ⟨u, hu1, hu2⟩ := LiesL.get (toAL l) b off hLL q (by rw [HN.out]; exact hq')
      have hcell : wr.cell? ⟨b, off + q, none⟩ = some u := (HW.out.cell (p := ⟨b, off + q, none⟩) hb).trans hu1
      have hel : (toAL l)[q]'(by rw [HN.out]; exact hq') = toA l[q] := by simp [toAL_map]
      rw [hel, toA_eq] at hu2
      have hkq := ((right_eq l[q]).1 (rightL_mem hRL.out l[q] (List.getElem_mem hq'))).1.1
      clear hLL hu1 hel
      by_cases hk : l[q].kind = 1
      · rw [if_pos hk] at hu2
        simp only [Lies] at hu2
        subst hu2
        have hx := ta_int_int (.int .i64 l[q].num) wr
        have HMT := Lib.hid (map_take (fun u => .int .i64 u.num) hq')
        have HK := Lib.hid hk
        clear hk hkq
        go_wp2_with (first
          | (at_builtin
             refine wpList_append_any _ rfl (.tmp 29) (.tmp 31) _ rfl w2.heap.size 3 i0 _ 1 8 Try.underlying48 hi0 hz0 hz1 hz2 rfl (by omega) v q ((l.take q).map fun u => .int .i64 u.num) rfl
               (HO.out.alloc _) (wr.heap.size + 1) (some ⟨wr.heap.size, 0, none⟩) 1 1 [.int .i64 l[q].num] rfl ⟨rfl, fun _ => ⟨_, rfl, by show wr.heap.size < wr.heap.size + 1; omega, fun i u hu => by
                 obtain rfl : i = 0 := by cases i with
                   | zero => rfl
                   | succ i => simp at hu
                 rw [add_plain, cell_new rfl]; simpa using hu⟩⟩ (by intro u hu; simp at hu; subst hu; rfl) (by simp only [maxLen]; omega) (by omega) (by simp; omega) ?_
             intro v6 w6 hown6 hg6 hat6
             have HO6 : Hid (w6.ownsRow w2.heap.size 3 1 v6 (q + 1) ((l.take (q + 1)).map fun u => .int .i64 u.num)) := by unfold Hid; rw [HMT.out]; exact hown6
             have HW6 : Hid (Below w2.heap.size w2 w6) := (HW.out.alloc hsz _).grown hg6 (by simp; omega) (fun k hk => (HO.out.lt k hk).1)
             clear hown6 hg6 hat6))
        go_roundw
        case rel => exact ⟨q + 1, v6, by omega, by go_num, rfl, HO6.out, fun j hj hjq => by
          rcases Nat.lt_or_ge j q with h | h
          · exact HALL.out j hj h
          · have e : j = q := by omega
            subst e
            exact HK.out, HW6.out⟩
        case measure => simp [intOf]; omega
      · have hz : (∃ x, u = .iface 9 x) ∨ (∃ x, u = .iface 59 x) := by
          rcases hkq with h | h | h
          · exact absurd h hk
          · left; rw [if_neg hk, if_pos h] at hu2; simp only [Lies] at hu2; exact ⟨_, hu2⟩
          · right; rw [if_neg hk, if_neg (by omega)] at hu2; simp only [Lies] at hu2; obtain ⟨_, _, e, _⟩ := hu2; exact ⟨_, e⟩
        have HNO2 := Lib.hid (fun w' hb => HNO.out w' hb q hq' hk)
        have HWW : Hid (Below w.heap.size w wr) := HB.out.trans (HW.out.mono hsz0)
        clear hk hkq hu2
        rcases hz with ⟨x, rfl⟩ | ⟨x, rfl⟩
        · have hx := ta_str_int x wr
          go_wp2_with fail
          try rw [Exit.noGoto_ret]
          go_ret2
          exact HNO2.out _ HWW.out
        · have hx := ta_lst_int x wr
          go_wp2_with fail
          try rw [Exit.noGoto_ret]
          go_ret2
          exact HNO2.out _ HWW.out
    · obtain rfl : q = n := by omega
      have HYES2 : Hid (RetI w t 1 3 (fun u => .int .i64 u.num) (.returned (.tuple #[v, .int .i64 0])) wr) := HYES.out wr v (HB.out.trans (HW.out.mono hsz0)) (fun i hi => HALL.out i hi (by rw [← HLN.out]; exact hi)) (by
        have := HO.out
        rw [List.take_of_length_le (by rw [HLN.out]; exact Nat.le_refl _)] at this
        rw [HLN.out]; exact World.ownsRow.base this hsz0)
      go_wp2_with fail
      go_ret2
      exact HYES2.out

set_option maxHeartbeats 1000000 in
theorem all51_err (t : Tree) (a : Option Addr) (c : Nat) (w : World) (r : Int) (hA : At w (· < w.heap.size) t a c) (h : (¬ Fits t 20 ∧ r = 2) ∨ (Fits t 20 ∧ t.kind ≠ 3 ∧ r = 20)) :
    Calls Try.prog 51 #[val t a c] w (Ret1 w (.tuple #[.slice none 0 0, .int .i64 r])) := by
  have HC := Lib.hid (list57_err t a c (w.alloc (.cells #[.int .i64 t.kind, .int .i64 t.num, .string t.text, .slice a t.list.length c] 26)) r ((hA.below ((Below.refl _ _).alloc (Nat.le_refl _) _)).more (by simp)) h)
  unfold val at HC ⊢
  clear h hA
  go_enter Try.func51, Try.ntmps51
  go_wp2_with fail
  refine HC.out.mono ?_
  rintro e w2 ⟨rfl, hb⟩
  have HB : Hid (Below w.heap.size w w2) := ((Below.refl _ _).alloc (Nat.le_refl _) _).trans (hb.mono (by simp))
  clear hb
  go_wp2_with fail
  refine wp_loop_rounds 1 ?_
  rw [rounds_succ]
  go_wp2_with fail
  go_ret2
  exact ⟨rfl, HB.out⟩

set_option maxHeartbeats 4000000 in
theorem all51_lst (t : Tree) (a : Option Addr) (c : Nat) (w : World) (hA : At w (· < w.heap.size) t a c) (hf : Fits t 20) (hk : t.kind = 3) :
    Calls Try.prog 51 #[val t a c] w (RetI w t 2 9 (fun u => .string u.text)) := by
  obtain ⟨i0, hi0, hz0, hz1, hz2⟩ := info_parts str_info
  have HC := Lib.hid (list57_yes t a c (w.alloc (.cells #[.int .i64 t.kind, .int .i64 t.num, .string t.text, .slice a t.list.length c] 26)) ((hA.below ((Below.refl _ _).alloc (Nat.le_refl _) _)).more (by simp)) hf hk)
  have hRL := Lib.hid ((right_eq t).1 hf.1).2
  have hnl : t.list.length ≤ 20000 := by have := hf.2.2; have h2 := count_eq t; have h3 := length_countL t.list; omega
  have hR : ∀ w', Below w.heap.size w w' → ∀ i (h : i < t.list.length), t.list[i].kind ≠ 2 → RetI w t 2 9 (fun u => .string u.text) (.returned (.tuple #[.slice none 0 0, .int .i64 20])) w' := fun w' hb i h hk => retI_no hb i h hk
  have hY : ∀ w' v, Below w.heap.size w w' → (∀ i (h : i < t.list.length), t.list[i].kind = 2) → w'.ownsRow w.heap.size 9 1 v t.list.length (t.list.map (fun u => .string u.text)) → RetI w t 2 9 (fun u => .string u.text) (.returned (.tuple #[v, .int .i64 0])) w' := fun w' v hb h ho => retI_yes hb h ho
  unfold val at HC ⊢
  have HNO := Lib.hid hR
  have HYES := Lib.hid hY
  clear hf hA hk hR hY
  obtain ⟨l, hL⟩ : ∃ l, t.list = l := ⟨_, rfl⟩
  have HN := Lib.hid (toAL_len t.list)
  rw [hL] at HC hRL hnl HN ⊢
  simp only [hL] at HNO HYES
  obtain ⟨n, hn⟩ : ∃ n, l.length = n := ⟨_, rfl⟩
  have HLN := Lib.hid hn
  rw [hn] at HC hnl ⊢
  clear hn
  go_enter Try.func51, Try.ntmps51
  go_wp2_with fail
  refine HC.out.mono ?_
  rintro e w2 ⟨a', c', rfl, h1, h2, h3, hb⟩
  have HB : Hid (Below w.heap.size w w2) := ((Below.refl _ _).alloc (Nat.le_refl _) _).trans (hb.mono (by simp))
  have H3 := Lib.hid h3
  clear hb h3
  go_wp2_with fail
  go_loopw [6, 18] (fun u i wr => ∃ (q : Nat) (v : Value), q ≤ n ∧ i = .int .i64 (q : Nat) ∧ v = u ∧ wr.ownsRow w2.heap.size 9 1 v q ((l.take q).map fun u => .string u.text) ∧ (∀ j (hj : j < l.length), j < q → l[j].kind = 2) ∧ Below w2.heap.size w2 wr) (fun _ i _ => n - (intOf i).toNat)
  case atStart => exact ⟨0, _, Nat.zero_le _, rfl, rfl, World.ownsRow_nil _ _ _ _, fun j _ hj => by omega, Below.refl _ _⟩
  case round =>
    obtain ⟨q, v, hq, rfl, rfl, hO, hall, hbl⟩ := hrel
    have HO := Lib.hid hO
    have HALL := Lib.hid hall
    have HW := Lib.hid hbl
    have hsz := hbl.size
    have hsz0 := HB.out.size
    clear hO hall hbl
    by_cases hlt : q < n
    · rcases H3.out with h0 | ⟨b, off, rfl, hb, hLL⟩
      · rw [h0] at HLN; have := HLN.out; simp at this; omega
      have hq' : q < l.length := by rw [HLN.out]; exact hlt
      obtain ⟨u, hu1, hu2⟩ := LiesL.get (toAL l) b off hLL q (by rw [HN.out]; exact hq')
      have hcell : wr.cell? ⟨b, off + q, none⟩ = some u := (HW.out.cell (p := ⟨b, off + q, none⟩) hb).trans hu1
      have hel : (toAL l)[q]'(by rw [HN.out]; exact hq') = toA l[q] := by simp [toAL_map]
      rw [hel, toA_eq] at hu2
      have hkq := ((right_eq l[q]).1 (rightL_mem hRL.out l[q] (List.getElem_mem hq'))).1.1
      clear hLL hu1 hel
      by_cases hk : l[q].kind = 2
      · rw [if_neg (by omega), if_pos hk] at hu2
        simp only [Lies] at hu2
        subst hu2
        have hx := ta_str_str (.string l[q].text) wr
        have HMT := Lib.hid (map_take (fun u => .string u.text) hq')
        have HK := Lib.hid hk
        clear hk hkq
        go_wp2_with (first
          | (at_builtin
             refine wpList_append_any _ rfl (.tmp 29) (.tmp 31) _ rfl w2.heap.size 9 i0 _ 1 16 Try.underlying51 hi0 hz0 hz1 hz2 rfl (by omega) v q ((l.take q).map fun u => .string u.text) rfl
               (HO.out.alloc _) (wr.heap.size + 1) (some ⟨wr.heap.size, 0, none⟩) 1 1 [.string l[q].text] rfl ⟨rfl, fun _ => ⟨_, rfl, by show wr.heap.size < wr.heap.size + 1; omega, fun i u hu => by
                 obtain rfl : i = 0 := by cases i with
                   | zero => rfl
                   | succ i => simp at hu
                 rw [add_plain, cell_new rfl]; simpa using hu⟩⟩ (by intro u hu; simp at hu; subst hu; rfl) (by simp only [maxLen]; omega) (by omega) (by simp; omega) ?_
             intro v6 w6 hown6 hg6 hat6
             have HO6 : Hid (w6.ownsRow w2.heap.size 9 1 v6 (q + 1) ((l.take (q + 1)).map fun u => .string u.text)) := by unfold Hid; rw [HMT.out]; exact hown6
             have HW6 : Hid (Below w2.heap.size w2 w6) := (HW.out.alloc hsz _).grown hg6 (by simp; omega) (fun k hk => (HO.out.lt k hk).1)
             clear hown6 hg6 hat6))
        go_roundw
        case rel => exact ⟨q + 1, v6, by omega, by go_num, rfl, HO6.out, fun j hj hjq => by
          rcases Nat.lt_or_ge j q with h | h
          · exact HALL.out j hj h
          · have e : j = q := by omega
            subst e
            exact HK.out, HW6.out⟩
        case measure => simp [intOf]; omega
      · have hz : (∃ x, u = .iface 3 x) ∨ (∃ x, u = .iface 59 x) := by
          rcases hkq with h | h | h
          · left; rw [if_pos h] at hu2; simp only [Lies] at hu2; exact ⟨_, hu2⟩
          · exact absurd h hk
          · right; rw [if_neg (by omega), if_neg hk] at hu2; simp only [Lies] at hu2; obtain ⟨_, _, e, _⟩ := hu2; exact ⟨_, e⟩
        have HNO2 := Lib.hid (fun w' hb => HNO.out w' hb q hq' hk)
        have HWW : Hid (Below w.heap.size w wr) := HB.out.trans (HW.out.mono hsz0)
        clear hk hkq hu2
        rcases hz with ⟨x, rfl⟩ | ⟨x, rfl⟩
        · have hx := ta_int_str x wr
          go_wp2_with fail
          try rw [Exit.noGoto_ret]
          go_ret2
          exact HNO2.out _ HWW.out
        · have hx := ta_lst_str x wr
          go_wp2_with fail
          try rw [Exit.noGoto_ret]
          go_ret2
          exact HNO2.out _ HWW.out
    · obtain rfl : q = n := by omega
      have HYES2 : Hid (RetI w t 2 9 (fun u => .string u.text) (.returned (.tuple #[v, .int .i64 0])) wr) := HYES.out wr v (HB.out.trans (HW.out.mono hsz0)) (fun i hi => HALL.out i hi (by rw [← HLN.out]; exact hi)) (by
        have := HO.out
        rw [List.take_of_length_le (by rw [HLN.out]; exact Nat.le_refl _)] at this
        rw [HLN.out]; exact World.ownsRow.base this hsz0)
      go_wp2_with fail
      go_ret2
      exact HYES2.out
end Go.Proofs.Ytkmikpmbnfcbpaa
