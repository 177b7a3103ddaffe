/- Contracts of Check, Encode, Num, Str, and of the comparisons of bytes and of numbers. -/
import Derived.Test.YtkmikpmbnfcbpaaGi
namespace Go.Proofs.Ytkmikpmbnfcbpaa
open Go.RowKit Go.Lib
set_option linter.unusedVariables false
open Tree

def Ret1 (w : World) (v : Value) (e : Ending) (w' : World) : Prop := e = .returned v ∧ Below w.heap.size w w'

theorem boxed {w : World} {k n : Int} {s : ByteArray} {L : Value} : Blk (w.alloc (.cells #[.int .i64 k, .int .i64 n, .string s, L] 26)) w.heap.size 26 #[.int .i64 k, .int .i64 n, .string s, L] := Blk.new w 26 _
section
variable {w : World} {g : Nat} {a b c d : Value}
theorem Blk.c0 (h : Blk w g 26 #[a, b, c, d]) : w.cell? ⟨g, 0, none⟩ = some a := h.cell 0
theorem Blk.c1 (h : Blk w g 26 #[a, b, c, d]) : w.cell? ⟨g, 1, none⟩ = some b := h.cell 1
theorem Blk.c2 (h : Blk w g 26 #[a, b, c, d]) : w.cell? ⟨g, 2, none⟩ = some c := h.cell 2
theorem Blk.c3 (h : Blk w g 26 #[a, b, c, d]) : w.cell? ⟨g, 3, none⟩ = some d := h.cell 3
end
set_option maxHeartbeats 1000000 in
theorem check24 (t : Tree) (a : Option Addr) (c : Nat) (w : World) (r : Int) (hA : At w (· < w.heap.size) t a c) (h : (Fits t 20 ∧ r = 0) ∨ (¬ Fits t 20 ∧ r = 2)) :
    Calls Try.prog 24 #[val t a c] w (Ret1 w (.int .i64 r)) := by
  have HC : Hid (∀ W, W = w.alloc (.cells #[.int .i64 t.kind, .int .i64 t.num, .string t.text, .slice a t.list.length c] 26) → Calls Try.prog 48 #[val t a c, .int .i64 20] W (RetC W (Fits t 20) t.count)) := fun W e => by
    subst e
    exact check_calls t.count t a c 20 _ (Nat.le_refl _) (by omega) (by omega) ((hA.below ((Below.refl _ _).alloc (Nat.le_refl _) _)).more (by simp))
  have H := Lib.hid h
  unfold val at HC ⊢
  clear h hA
  go_enter Try.func24, Try.ntmps24
  go_wp2_with fail
  refine (HC.out _ rfl).mono ?_
  rintro e w2 ⟨q, rfl, h1, h2, hb⟩
  have HB : Hid (Below w.heap.size w w2) := ((Below.refl _ _).alloc (Nat.le_refl _) _).trans (hb.mono (by simp))
  clear hb
  rcases H.out with ⟨hf, rfl⟩ | ⟨hf, rfl⟩
  · have := h1 hf
    subst this
    clear h1 h2 hf
    go_wp2_with fail
    go_ret
    exact ⟨rfl, HB.out⟩
  · have := h2 hf
    subst this
    clear h1 h2 hf
    go_wp2_with fail
    go_ret
    exact ⟨rfl, HB.out⟩

set_option maxHeartbeats 1000000 in
theorem encode18_no (t : Tree) (a : Option Addr) (c : Nat) (w : World) (hA : At w (· < w.heap.size) t a c) (hf : ¬ Fits t 20) :
    Calls Try.prog 18 #[val t a c] w (Ret1 w (.tuple #[.slice none 0 0, .int .i64 2])) := by
  have HC : Hid (∀ W, W = w.alloc (.cells #[.int .i64 t.kind, .int .i64 t.num, .string t.text, .slice a t.list.length c] 26) → Calls Try.prog 24 #[val t a c] W (Ret1 W (.int .i64 2))) := fun W e => by
    subst e
    exact check24 t a c _ 2 ((hA.below ((Below.refl _ _).alloc (Nat.le_refl _) _)).more (by simp)) (.inr ⟨hf, rfl⟩)
  unfold val at HC ⊢
  clear hf hA
  go_enter Try.func18, Try.ntmps18
  go_wp2_with fail
  refine (HC.out _ rfl).mono ?_
  rintro e w2 ⟨rfl, hb⟩
  have HB : Hid (Below w.heap.size w w2) := ((Below.refl _ _).alloc (Nat.le_refl _) _).trans (hb.mono (by simp))
  clear hb
  go_wp2_with fail
  go_ret2
  exact ⟨rfl, HB.out⟩

set_option maxHeartbeats 1000000 in
theorem encode18_yes (t : Tree) (a : Option Addr) (c : Nat) (w : World) (hA : At w (· < w.heap.size) t a c) (hf : Fits t 20) (hl : (enc t).length ≤ 100000000000) :
    Calls Try.prog 18 #[val t a c] w (RetB2 w (enc t)) := by
  have HC : Hid (∀ W, W = w.alloc (.cells #[.int .i64 t.kind, .int .i64 t.num, .string t.text, .slice a t.list.length c] 26) → Calls Try.prog 24 #[val t a c] W (Ret1 W (.int .i64 0))) := fun W e => by
    subst e
    exact check24 t a c _ 0 ((hA.below ((Below.refl _ _).alloc (Nat.le_refl _) _)).more (by simp)) (.inl ⟨hf, rfl⟩)
  have HA := Lib.hid hA
  have HF := Lib.hid hf
  have HL := Lib.hid hl
  have HE : Hid (∀ W, Below w.heap.size w W → Calls Try.prog 42 #[.slice none 0 0, val t a c] W (EncPost W w.heap.size (.slice none 0 0) (enc t))) := fun W hb => by
    have := encode_calls t.count t a c W w.heap.size (.slice none 0 0) [] (Nat.le_refl _) HF.out.1 (by have := HF.out.2.1; omega) (HA.out.below hb) hb.size (OwnB.nil _ _) (by simpa using HL.out)
    simpa using this
  unfold val at HC HE ⊢
  clear hf hA hl
  go_enter Try.func18, Try.ntmps18
  go_wp2_with fail
  refine (HC.out _ rfl).mono ?_
  rintro e w2 ⟨rfl, hb⟩
  have HB : Hid (Below w.heap.size w w2) := ((Below.refl _ _).alloc (Nat.le_refl _) _).trans (hb.mono (by simp))
  have hbx := boxed.below (B := w.heap.size + 1) (by simpa using hb) (by omega)
  have hb0 := hbx.c0
  have hb1 := hbx.c1
  have hb2 := hbx.c2
  have hb3 := hbx.c3
  clear hb hbx
  go_wp2_with fail
  refine (HE.out w2 HB.out).mono ?_
  intro e w3 hP
  obtain ⟨v, rfl, hO, hT⟩ := hP.track
  have HO := Lib.hid hO
  have HB3 : Hid (Below w.heap.size w w3) := HB.out.trans (hT.old (fun k hk => by simp [Value.ownBlock] at hk) HB.out.size)
  clear hO hT hP
  go_wp2_with fail
  go_ret2
  exact ⟨v, rfl, HO.out, HB3.out⟩

theorem res_cell {fn : Func} {p : Tmp} (h : fn.results = #[.cell p 26]) {tmps : Array Value} {W : World} {g : Nat} {a b c d : Value} (hb : Blk W g 26 #[a, b, c, d]) (hp : tmps.getD p undef = .pointer (some ⟨g, 0, none⟩)) :
    (results fn tmps).run Try.prog W = .ok (.agg #[a, b, c, d]) W := by
  have hl : (loadVar 26 ⟨g, 0, none⟩).run Try.prog W = .ok (.agg #[a, b, c, d]) W := run_loadVar_row (P := Try.prog) W g 26 26 #[a, b, c, d] (0, 0) _ hb Try.underlying26 rfl (by kernel_rfl)
  have e : (results fn tmps).run Try.prog W = ((asAddr (tmps.getD p undef)).run Try.prog W).andThen fun a w₁ => (loadVar 26 a).run Try.prog w₁ := by
    simp only [results, h]
    simp [Sem.run_bind, Result.andThen]
  rw [e, hp]
  exact hl

set_option maxHeartbeats 1000000 in
theorem num35 (n : Int) (w : World) : Calls Try.prog 35 #[.int .i64 n] w (Ret1 w (val (.mk 1 n ⟨#[]⟩ []) none 0)) := by
  go_enter Try.func35, Try.ntmps35
  go_wp2_with fail
  refine bodyPost_ret (res_cell rfl (Blk.new w 26 _) rfl) rfl ⟨rfl, (Below.refl _ _).alloc (Nat.le_refl _) _⟩
set_option maxHeartbeats 1000000 in
theorem str36 (s : ByteArray) (w : World) : Calls Try.prog 36 #[.string s] w (Ret1 w (val (.mk 2 0 s []) none 0)) := by
  go_enter Try.func36, Try.ntmps36
  go_wp2_with fail
  refine bodyPost_ret (res_cell rfl (Blk.new w 26 _) rfl) rfl ⟨rfl, (Below.refl _ _).alloc (Nat.le_refl _) _⟩

theorem beq_same (bs cs : List UInt8) : ((⟨bs.toArray⟩ : ByteArray).toList == (⟨cs.toArray⟩ : ByteArray).toList) = (bs == cs) := by
  rw [ByteArray.toList_mk, ByteArray.toList_mk]
set_option maxHeartbeats 1000000 in
theorem same22 (w : World) (B B' : Nat) (a a' : Option Addr) (n n' c c' : Nat) (bs cs : List UInt8) (h : Byt w B a n bs) (h' : Byt w B' a' n' cs) :
    Calls Try.prog 22 #[.slice a n c, .slice a' n' c'] w fun e w' => e = .returned (.bool (bs == cs)) ∧ w = w' := by
  have hcv1 : ∀ W, W = w → (convert 22 9 (.slice a n c)).run Try.prog W = .ok (.string ⟨bs.toArray⟩) W := fun W e => by subst e; exact conv_byt h
  have hcv2 : ∀ W, W = w → (convert 22 9 (.slice a' n' c')).run Try.prog W = .ok (.string ⟨cs.toArray⟩) W := fun W e => by subst e; exact conv_byt h'
  have e1 := hcv1 w rfl
  have e2 := hcv2 w rfl
  have HQ := Lib.hid (beq_same bs cs)
  clear h h' hcv1 hcv2
  go_enter Try.func22, Try.ntmps22
  go_wp2_with fail
  go_ret
  exact ⟨by first | rfl | (simp only [HQ.out]; done) | (rw [← HQ.out]; rfl), rfl⟩

/-- Numbers in memory. -/
def Nums (w : World) (B : Nat) (a : Option Addr) (n : Nat) (zs : List Int) : Prop :=
  zs.length = n ∧ (n = 0 ∨ ∃ b off, a = some ⟨b, off, none⟩ ∧ b < B ∧ ∀ i, i < n → w.cell? ⟨b, off + i, none⟩ = some (.int .i64 (zs.getD i 0)))
set_option maxHeartbeats 2000000 in
theorem ints37 (w : World) (B B' : Nat) (a a' : Option Addr) (n c c' : Nat) (zs : List Int) (h : Nums w B a n zs) (h' : Nums w B' a' n zs) (hn : n ≤ 9223372036854775807) :
    Calls Try.prog 37 #[.slice a n c, .slice a' n c'] w fun e w' => e = .returned (.bool true) ∧ ∃ k, w' = w.drewN k := by
  go_enter Try.func37, Try.ntmps37
  go_wp2_with fail
  go_loopw [5] (fun i wr => ∃ q k, q ≤ n ∧ i = .int .i64 (q : Nat) ∧ wr = w.drewN k) (fun i _ => n - (intOf i).toNat)
  case atStart => exact ⟨0, 0, Nat.zero_le _, rfl, rfl⟩
  case round =>
    obtain ⟨q, k, hq, rfl, hwr⟩ := hrel
    have cellr : ∀ p, wr.cell? p = w.cell? p := fun p => by subst hwr; rfl
    have HW := Lib.hid hwr
    clear hwr
    by_cases hlt : q < n
    · rcases h.2 with h0 | ⟨b, off, rfl, hb, hc⟩
      · omega
      rcases h'.2 with h0 | ⟨b', off', rfl, hb', hc'⟩
      · omega
      have f1 := (cellr _).trans (hc q hlt)
      have f2 := (cellr _).trans (hc' q hlt)
      clear cellr hc hc' h h'
      go_wp2_with fail
      go_region
      all_goals go_wp2_with fail
      all_goals go_roundw
      all_goals first
        | (exact ⟨q + 1, k + 1, by omega, by go_num, by rw [HW.out]; rfl⟩)
        | (simp [intOf]; omega)
    · obtain rfl : q = n := by omega
      go_wp2_with fail
      go_ret
      exact ⟨rfl, k, HW.out⟩
end Go.Proofs.Ytkmikpmbnfcbpaa
