/- The contract of Of. -/
import Derived.Test.YtkmikpmbnfcbpaaGn
import Derived.Recover
import Derived.Defers
import Derived.Laws.Pointers
namespace Go.Proofs.Ytkmikpmbnfcbpaa
open Go.RowKit Go.Lib
set_option linter.unusedVariables false
open Tree Anyv

theorem catch_idle (p q : Addr) (w : World) :
    CallsD Try.prog 44 #[.pointer (some p), .pointer (some q)] .returning w fun e u' w' => e = .returned (.tuple #[]) ∧ u' = .returning ∧ w' = w := by
  refine callsD_of_wpS Try.func44 rfl fun c₀ cs hu => ?_
  apply wpS_seq
  apply wpS_region
  simp [wpOpsS, go_sem, recoverD, hu, Try.ntmps44, Exit.thenS]
  refine wpS_cond (t := false) (by simp [Act.eval, Array.replicate]) ?_
  simp only [Bool.false_eq_true, if_false]
  refine wpS_of_wp (wp_skip ?_)
  cases c₀
  simp_all [bodyPostS, results, Try.results44]

theorem res_cells {fn : Func} {p q : Tmp} (h : fn.results = #[.cell p 26, .cell q 27]) {tmps : Array Value} {W : World} {g g' : Nat} {a b c d e : Value} (hb : Blk W g 26 #[a, b, c, d]) (hp : tmps.getD p undef = .pointer (some ⟨g, 0, none⟩))
    (hc : (loadVar 27 ⟨g', 0, none⟩).run Try.prog W = .ok e W) (hq : tmps.getD q undef = .pointer (some ⟨g', 0, none⟩)) :
    (results fn tmps).run Try.prog W = .ok (.tuple #[.agg #[a, b, c, d], e]) W := by
  have hl : (loadVar 26 ⟨g, 0, none⟩).run Try.prog W = .ok (.agg #[a, b, c, d]) W := run_loadVar_row (P := Try.prog) W g 26 26 #[a, b, c, d] (0, 0) _ hb Try.underlying26 rfl (by kernel_rfl)
  have e1 : (results fn tmps).run Try.prog W = ((asAddr (tmps.getD p undef)).run Try.prog W).andThen fun a w₁ => ((loadVar 26 a).run Try.prog w₁).andThen fun v w₂ => ((asAddr (tmps.getD q undef)).run Try.prog w₂).andThen fun b w₃ => ((loadVar 27 b).run Try.prog w₃).andThen fun u w₄ => .ok (.tuple #[v, u]) w₄ := by
    simp only [results, h]
    simp [Sem.run_bind, Result.andThen]
  rw [e1, hp, hq]
  simp [Result.andThen, asAddr, hl, hc]
theorem load27 {W : World} {g : Nat} {n : Int} (h : W.cell? ⟨g, 0, none⟩ = some (.int .i64 n)) : (loadVar 27 ⟨g, 0, none⟩).run Try.prog W = .ok (.int .i64 n) W := by
  simp [loadVar, go_sem, h]

theorem of_door {R : Ending → World → Prop} {tmps : Array Value} {W : World} {v : Value} {p q : Addr} (hr : (results Try.f21 tmps).run Try.prog W = .ok v W) (hR : R (.returned v) W) :
    bodyPostD Try.prog Try.f21 R Exit.ret { tmps := tmps, defers := [{ target := .fn (.func 44) #[.pointer (some p), .pointer (some q)], args := #[] }] } W := by
  refine leaves_cons (f := 44) (args := #[.pointer (some p), .pointer (some q)]) (by simp) (by simp [go_sem]) ?_
  refine (catch_idle p q W).mono ?_
  rintro e u' w'' ⟨rfl, rfl, rfl⟩
  exact ⟨v, hr, hR⟩
theorem Blk.keep_ {w w' : World} {g : Nat} {t : TypeId} {cs : Array Value} (h : Blk w g t cs) (hk : w'.heap[g]? = w.heap[g]?) : Blk w' g t cs := by unfold Blk at *; rw [hk]; exact h
set_option maxHeartbeats 2000000 in
theorem of21_types (t : Anyv) (v : Value) (w : World) (hL : Lies w (· < w.heap.size) t v) (hT : ¬ Ty 0 t) :
    Calls Try.prog 21 #[v] w (Ret1 w (.tuple #[.agg #[.int .i64 0, .int .i64 0, .string ⟨#[]⟩, .slice none 0 0], .int .i64 20])) := by
  have hmf : ∀ (fn : Fn) (first cap : Array Value) (w : World), (Instr.makeFunc fn first cap).run Try.prog w = .ok (.func fn first cap) w := fun _ _ _ _ => rfl
  have HTC : Hid (∀ W, Below w.heap.size w W → Calls Try.prog 45 #[v, .int .i64 0] W (RetQ W (Ty 0 t))) := fun W hb =>
    typed_calls t.size t 0 v W (Nat.le_refl _) (by omega) ((hL.below hb).more hb.size)
  clear hL
  go_enter_defers Try.func21, Try.ntmps21
  go_wp2_with fail
  generalize hW1 : World.alloc (World.alloc w _) _ = W1
  have hbk0 : Blk W1 w.heap.size 26 #[.int .i64 0, .int .i64 0, .string ⟨#[]⟩, .slice none 0 0] := by rw [← hW1]; exact (Blk.new w 26 _).alloc _
  have hbk1 : Blk W1 (w.heap.size + 1) 27 #[.int .i64 0] := by rw [← hW1, ← size_alloc w]; exact Blk.new _ 27 _
  have hB1 : Below w.heap.size w W1 := by rw [← hW1]; exact ((Below.refl _ _).alloc (Nat.le_refl _) _).alloc (by simp) _
  have hs1 : W1.heap.size = w.heap.size + 2 := by rw [← hW1]; simp
  clear hW1
  refine (HTC.out W1 hB1).mono ?_
  rintro e w2 ⟨br, rfl, hbr, hb⟩
  cases br with
  | true => exact absurd (hbr.1 rfl) hT
  | false =>
    have hk0 := hbk0.below hb (by omega)
    have hk1 := hbk1.below hb (by omega)
    have HB : Hid (Below w.heap.size w w2) := hB1.trans (hb.mono (by omega))
    have HK0 := Lib.hid hk0
    have HK1 := Lib.hid hk1
    have hc0 := hk0.c0
    have hc1 := hk0.c1
    have hc2 := hk0.c2
    have hc3 := hk0.c3
    have hf0 := hk0.frozen 0
    have hf1 := hk0.frozen 1
    have hf2 := hk0.frozen 2
    have hf3 := hk0.frozen 3
    have hd0 : w2.cell? ⟨w.heap.size + 1, 0, none⟩ = some (.int .i64 0) := hk1.cell 0
    have hdf := hk1.frozen 0
    have hs2 := hb.size
    clear hbr hb hk0 hk1 hbk0 hbk1 hB1
    go_wp2_with fail
    refine of_door (res_cells rfl ((Blk.put4 HK0.out).far (by show w.heap.size ≠ w.heap.size + 1; omega) _) rfl (load27 (Blk.cell (((HK1.out.keep_ (put4_block (by omega))).set_ 0 _)) 0)) rfl) ⟨rfl, ?_⟩
    exact (Below.put4_ HB.out (Nat.le_refl _)).setCell (by show w.heap.size ≤ w.heap.size + 1; omega) _
set_option maxHeartbeats 2000000 in
theorem of21_arg (t : Anyv) (v : Value) (w : World) (hL : Lies w (· < w.heap.size) t v) (hN : t.size ≤ 1000000000) (hT : Ty 0 t) (hF : ¬ Fits (ofA 0 t) 20) :
    Calls Try.prog 21 #[v] w (Ret1 w (.tuple #[.agg #[.int .i64 0, .int .i64 0, .string ⟨#[]⟩, .slice none 0 0], .int .i64 2])) := by
  have hmf : ∀ (fn : Fn) (first cap : Array Value) (w : World), (Instr.makeFunc fn first cap).run Try.prog w = .ok (.func fn first cap) w := fun _ _ _ _ => rfl
  have HTC : Hid (∀ W, Below w.heap.size w W → Calls Try.prog 45 #[v, .int .i64 0] W (RetQ W (Ty 0 t))) := fun W hb =>
    typed_calls t.size t 0 v W (Nat.le_refl _) (by omega) ((hL.below hb).more hb.size)
  have HOC : Hid (∀ W, Below w.heap.size w W → Calls Try.prog 46 #[v, .int .i64 0] W (RetO W (ofA 0 t))) := fun W hb =>
    of_calls t.size t 0 v W (Nat.le_refl _) hN (by omega) hT ((hL.below hb).more hb.size)
  have hTT : Hid (Ty 0 t) := hT
  obtain ⟨u, hu⟩ : ∃ u, ofA 0 t = u := ⟨_, rfl⟩
  rw [hu] at HOC hF
  unfold RetO val at HOC
  clear hT hN hu
  clear hL
  go_enter_defers Try.func21, Try.ntmps21
  go_wp2_with fail
  generalize hW1 : World.alloc (World.alloc w _) _ = W1
  have hbk0 : Blk W1 w.heap.size 26 #[.int .i64 0, .int .i64 0, .string ⟨#[]⟩, .slice none 0 0] := by rw [← hW1]; exact (Blk.new w 26 _).alloc _
  have hbk1 : Blk W1 (w.heap.size + 1) 27 #[.int .i64 0] := by rw [← hW1, ← size_alloc w]; exact Blk.new _ 27 _
  have hB1 : Below w.heap.size w W1 := by rw [← hW1]; exact ((Below.refl _ _).alloc (Nat.le_refl _) _).alloc (by simp) _
  have hs1 : W1.heap.size = w.heap.size + 2 := by rw [← hW1]; simp
  clear hW1
  refine (HTC.out W1 hB1).mono ?_
  rintro e w2 ⟨br, rfl, hbr, hb⟩
  cases br with
  | false => exact absurd (hbr.2 hTT.out) (by simp)
  | true =>
    have hk0 := hbk0.below hb (by omega)
    have hk1 := hbk1.below hb (by omega)
    have HB : Hid (Below w.heap.size w w2) := hB1.trans (hb.mono (by omega))
    have HK0 := Lib.hid hk0
    have HK1 := Lib.hid hk1
    have hc0 := hk0.c0
    have hc1 := hk0.c1
    have hc2 := hk0.c2
    have hc3 := hk0.c3
    have hf0 := hk0.frozen 0
    have hf1 := hk0.frozen 1
    have hf2 := hk0.frozen 2
    have hf3 := hk0.frozen 3
    have hd0 : w2.cell? ⟨w.heap.size + 1, 0, none⟩ = some (.int .i64 0) := hk1.cell 0
    have hdf := hk1.frozen 0
    have hs2 := hb.size
    clear hbr hb hk0 hk1 hbk0 hbk1 hB1
    go_wp2_with fail
    refine (HOC.out w2 HB.out).mono ?_
    rintro e w3 ⟨a, c, rfl, hA, hb3⟩
    have hk03 := HK0.out.below hb3 (by omega)
    have hk13 := HK1.out.below hb3 (by omega)
    have HB3 : Hid (Below w.heap.size w w3) := HB.out.trans (hb3.mono (by omega))
    have HA := Lib.hid hA
    have HK03 := Lib.hid hk03
    have HK13 := Lib.hid hk13
    have hc0 := hk03.c0
    have hc1 := hk03.c1
    have hc2 := hk03.c2
    have hc3 := hk03.c3
    have hf0 := hk03.frozen 0
    have hf1 := hk03.frozen 1
    have hf2 := hk03.frozen 2
    have hf3 := hk03.frozen 3
    have hd0 : w3.cell? ⟨w.heap.size + 1, 0, none⟩ = some (.int .i64 0) := hk13.cell 0
    have hdf := hk13.frozen 0
    have hs3 := hb3.size
    have HCC : Hid (∀ W, W = put4 w3 w.heap.size (.int .i64 u.kind) (.int .i64 u.num) (.string u.text) (.slice a u.list.length c) → Calls Try.prog 24 #[.agg #[.int .i64 u.kind, .int .i64 u.num, .string u.text, .slice a u.list.length c]] W (Ret1 W (.int .i64 2))) := fun W e => by
      subst e
      refine check24 u a c _ 2 ?_ (.inr ⟨hF, rfl⟩)
      refine (HA.out.keep (fun b hb => put4_block (by have := hb.1; omega))).imp fun b hb => ?_
      rw [put4_size]; exact hb.2
    clear hA hb3 hk03 hk13
    go_wp2_with fail
    refine (HCC.out _ rfl).mono ?_
    rintro e w4 ⟨rfl, hb4⟩
    have hs4 := hb4.size
    rw [put4_size] at hs4
    have hk04 := (HK03.out.put4 (a := .int .i64 u.kind) (b := .int .i64 u.num) (c := .string u.text) (d := .slice a u.list.length c)).below hb4 (by rw [put4_size]; omega)
    have hk14 := (HK13.out.keep_ (put4_block (by omega))).below hb4 (by rw [put4_size]; omega)
    have HK04 := Lib.hid hk04
    have HK14 := Lib.hid hk14
    have HB4 : Hid (Below w.heap.size w w4) := (Below.put4_ HB3.out (Nat.le_refl _)).trans (hb4.mono (by rw [put4_size]; omega))
    have HA4 : Hid (At w4 (fun b => w.heap.size + 2 ≤ b ∧ b < w4.heap.size) u a c) := by
      have h1 := HA.out.keep (w' := put4 w3 w.heap.size (.int .i64 u.kind) (.int .i64 u.num) (.string u.text) (.slice a u.list.length c)) (fun b hb => put4_block (by have := hb.1; omega))
      refine (h1.keep fun b hb => hb4.block b (by rw [put4_size]; exact hb.2)).imp fun b hb => ⟨by have := hb.1; omega, by have := hb.2; omega⟩
    have hc0 := hk04.c0
    have hc1 := hk04.c1
    have hc2 := hk04.c2
    have hc3 := hk04.c3
    have hf0 := hk04.frozen 0
    have hf1 := hk04.frozen 1
    have hf2 := hk04.frozen 2
    have hf3 := hk04.frozen 3
    have hd0 : w4.cell? ⟨w.heap.size + 1, 0, none⟩ = some (.int .i64 0) := hk14.cell 0
    have hdf := hk14.frozen 0
    clear hb4 hk04 hk14
    go_wp2_with fail
    generalize hW5 : World.setCell w4 _ _ = w5
    have hk05 : Blk w5 w.heap.size 26 #[.int .i64 u.kind, .int .i64 u.num, .string u.text, .slice a u.list.length c] := by rw [← hW5]; exact HK04.out.far (by show w.heap.size ≠ w.heap.size + 1; omega) _
    have hk15 : Blk w5 (w.heap.size + 1) 27 #[.int .i64 2] := by rw [← hW5]; exact HK14.out.set_ 0 _
    have HB5 : Hid (Below w.heap.size w w5) := by unfold Hid; rw [← hW5]; exact HB4.out.setCell (by show w.heap.size ≤ w.heap.size + 1; omega) _
    have HK05 := Lib.hid hk05
    have HK15 := Lib.hid hk15
    have hc0 := hk05.c0
    have hc1 := hk05.c1
    have hc2 := hk05.c2
    have hc3 := hk05.c3
    have hf0 := hk05.frozen 0
    have hf1 := hk05.frozen 1
    have hf2 := hk05.frozen 2
    have hf3 := hk05.frozen 3
    have hd0 : w5.cell? ⟨w.heap.size + 1, 0, none⟩ = some (.int .i64 2) := hk15.cell 0
    have hdf := hk15.frozen 0
    clear hW5 hk05 hk15
    refine wp_region_noPanic ?_
    go_region
    all_goals refine NoPanic.normal ?_
    all_goals go_wp2_with fail
    all_goals
      refine of_door (res_cells rfl ((Blk.put4 HK05.out).far (by show w.heap.size ≠ w.heap.size + 1; omega) _).drew rfl (load27 (Blk.cell ((HK15.out.keep_ (put4_block (by omega))).set_ 0 _).drew 0)) rfl) ⟨rfl, ?_⟩
      exact ((Below.put4_ HB5.out (Nat.le_refl _)).setCell (by show w.heap.size ≤ w.heap.size + 1; omega) _).drew
set_option maxHeartbeats 2000000 in
theorem of21_ok (t : Anyv) (v : Value) (w : World) (hL : Lies w (· < w.heap.size) t v) (hN : t.size ≤ 1000000000) (hT : Ty 0 t) (hF : Fits (ofA 0 t) 20) :
    Calls Try.prog 21 #[v] w fun e w' => ∃ a c, e = .returned (.tuple #[val (ofA 0 t) a c, .int .i64 0]) ∧ At w' (fun b => w.heap.size ≤ b ∧ b < w'.heap.size) (ofA 0 t) a c ∧ Below w.heap.size w w' := by
  have hmf : ∀ (fn : Fn) (first cap : Array Value) (w : World), (Instr.makeFunc fn first cap).run Try.prog w = .ok (.func fn first cap) w := fun _ _ _ _ => rfl
  have HTC : Hid (∀ W, Below w.heap.size w W → Calls Try.prog 45 #[v, .int .i64 0] W (RetQ W (Ty 0 t))) := fun W hb =>
    typed_calls t.size t 0 v W (Nat.le_refl _) (by omega) ((hL.below hb).more hb.size)
  have HOC : Hid (∀ W, Below w.heap.size w W → Calls Try.prog 46 #[v, .int .i64 0] W (RetO W (ofA 0 t))) := fun W hb =>
    of_calls t.size t 0 v W (Nat.le_refl _) hN (by omega) hT ((hL.below hb).more hb.size)
  have hTT : Hid (Ty 0 t) := hT
  obtain ⟨u, hu⟩ : ∃ u, ofA 0 t = u := ⟨_, rfl⟩
  rw [hu] at HOC hF ⊢
  unfold RetO val at HOC
  unfold val
  clear hT hN hu
  clear hL
  go_enter_defers Try.func21, Try.ntmps21
  go_wp2_with fail
  generalize hW1 : World.alloc (World.alloc w _) _ = W1
  have hbk0 : Blk W1 w.heap.size 26 #[.int .i64 0, .int .i64 0, .string ⟨#[]⟩, .slice none 0 0] := by rw [← hW1]; exact (Blk.new w 26 _).alloc _
  have hbk1 : Blk W1 (w.heap.size + 1) 27 #[.int .i64 0] := by rw [← hW1, ← size_alloc w]; exact Blk.new _ 27 _
  have hB1 : Below w.heap.size w W1 := by rw [← hW1]; exact ((Below.refl _ _).alloc (Nat.le_refl _) _).alloc (by simp) _
  have hs1 : W1.heap.size = w.heap.size + 2 := by rw [← hW1]; simp
  clear hW1
  refine (HTC.out W1 hB1).mono ?_
  rintro e w2 ⟨br, rfl, hbr, hb⟩
  cases br with
  | false => exact absurd (hbr.2 hTT.out) (by simp)
  | true =>
    have hk0 := hbk0.below hb (by omega)
    have hk1 := hbk1.below hb (by omega)
    have HB : Hid (Below w.heap.size w w2) := hB1.trans (hb.mono (by omega))
    have HK0 := Lib.hid hk0
    have HK1 := Lib.hid hk1
    have hc0 := hk0.c0
    have hc1 := hk0.c1
    have hc2 := hk0.c2
    have hc3 := hk0.c3
    have hf0 := hk0.frozen 0
    have hf1 := hk0.frozen 1
    have hf2 := hk0.frozen 2
    have hf3 := hk0.frozen 3
    have hd0 : w2.cell? ⟨w.heap.size + 1, 0, none⟩ = some (.int .i64 0) := hk1.cell 0
    have hdf := hk1.frozen 0
    have hs2 := hb.size
    clear hbr hb hk0 hk1 hbk0 hbk1 hB1
    go_wp2_with fail
    refine (HOC.out w2 HB.out).mono ?_
    rintro e w3 ⟨a, c, rfl, hA, hb3⟩
    have hk03 := HK0.out.below hb3 (by omega)
    have hk13 := HK1.out.below hb3 (by omega)
    have HB3 : Hid (Below w.heap.size w w3) := HB.out.trans (hb3.mono (by omega))
    have HA := Lib.hid hA
    have HK03 := Lib.hid hk03
    have HK13 := Lib.hid hk13
    have hc0 := hk03.c0
    have hc1 := hk03.c1
    have hc2 := hk03.c2
    have hc3 := hk03.c3
    have hf0 := hk03.frozen 0
    have hf1 := hk03.frozen 1
    have hf2 := hk03.frozen 2
    have hf3 := hk03.frozen 3
    have hd0 : w3.cell? ⟨w.heap.size + 1, 0, none⟩ = some (.int .i64 0) := hk13.cell 0
    have hdf := hk13.frozen 0
    have hs3 := hb3.size
    have HCC : Hid (∀ W, W = put4 w3 w.heap.size (.int .i64 u.kind) (.int .i64 u.num) (.string u.text) (.slice a u.list.length c) → Calls Try.prog 24 #[.agg #[.int .i64 u.kind, .int .i64 u.num, .string u.text, .slice a u.list.length c]] W (Ret1 W (.int .i64 0))) := fun W e => by
      subst e
      refine check24 u a c _ 0 ?_ (.inl ⟨hF, rfl⟩)
      refine (HA.out.keep (fun b hb => put4_block (by have := hb.1; omega))).imp fun b hb => ?_
      rw [put4_size]; exact hb.2
    clear hA hb3 hk03 hk13
    go_wp2_with fail
    refine (HCC.out _ rfl).mono ?_
    rintro e w4 ⟨rfl, hb4⟩
    have hs4 := hb4.size
    rw [put4_size] at hs4
    have hk04 := (HK03.out.put4 (a := .int .i64 u.kind) (b := .int .i64 u.num) (c := .string u.text) (d := .slice a u.list.length c)).below hb4 (by rw [put4_size]; omega)
    have hk14 := (HK13.out.keep_ (put4_block (by omega))).below hb4 (by rw [put4_size]; omega)
    have HK04 := Lib.hid hk04
    have HK14 := Lib.hid hk14
    have HB4 : Hid (Below w.heap.size w w4) := (Below.put4_ HB3.out (Nat.le_refl _)).trans (hb4.mono (by rw [put4_size]; omega))
    have HA4 : Hid (At w4 (fun b => w.heap.size + 2 ≤ b ∧ b < w4.heap.size) u a c) := by
      have h1 := HA.out.keep (w' := put4 w3 w.heap.size (.int .i64 u.kind) (.int .i64 u.num) (.string u.text) (.slice a u.list.length c)) (fun b hb => put4_block (by have := hb.1; omega))
      refine (h1.keep fun b hb => hb4.block b (by rw [put4_size]; exact hb.2)).imp fun b hb => ⟨by have := hb.1; omega, by have := hb.2; omega⟩
    have hc0 := hk04.c0
    have hc1 := hk04.c1
    have hc2 := hk04.c2
    have hc3 := hk04.c3
    have hf0 := hk04.frozen 0
    have hf1 := hk04.frozen 1
    have hf2 := hk04.frozen 2
    have hf3 := hk04.frozen 3
    have hd0 : w4.cell? ⟨w.heap.size + 1, 0, none⟩ = some (.int .i64 0) := hk14.cell 0
    have hdf := hk14.frozen 0
    clear hb4 hk04 hk14
    go_wp2_with fail
    refine of_door (res_cells rfl ((Blk.put4 (HK04.out.far (by show w.heap.size ≠ w.heap.size + 1; omega) _)).far (by show w.heap.size ≠ w.heap.size + 1; omega) _) rfl (load27 (Blk.cell ((((HK14.out.set_ 0 _).keep_ (put4_block (by omega))).set_ 0 _)) 0)) rfl) ⟨a, c, rfl, ?_, ?_⟩
    · refine (HA4.out.keep fun b hb => ?_).imp fun b hb => ⟨by have := hb.1; omega, ?_⟩
      · refine (Below.heap_setCell _ _ _ b (by show b ≠ w.heap.size + 1; have := hb.1; omega)).trans ((put4_block (by have := hb.1; omega)).trans (Below.heap_setCell _ _ _ b (by show b ≠ w.heap.size + 1; have := hb.1; omega)))
      · have := hb.2; simp [World.setCell]; exact this
    · exact (Below.put4_ (HB4.out.setCell (by show w.heap.size ≤ w.heap.size + 1; omega) _) (Nat.le_refl _)).setCell (by show w.heap.size ≤ w.heap.size + 1; omega) _
end Go.Proofs.Ytkmikpmbnfcbpaa
