/- Memory: bytes, rows of one's own, what may have been written (turned from seat 04's texts). -/
import Derived.Test.YtkmikpmbnfcbpaaRows
import Derived.WalkKit
import Derived.WalkSpells
import Derived.WalkLawsBesides
import Derived.Lib.Hide
import Derived.Deep.QuietTactic
import Derived.BigQuiet
import Derived.Below
import Derived.Laws.OwnMore
import Derived.Deep.AppendLies
import Derived.Deep.Draws
import Derived.Laws.Rows
import Derived.Maps.AppendAt
import Derived.RegionTactic
import Derived.OwnWalk
import Derived.Deep.RegionWith
import Derived.OpenShut
namespace Go.Proofs.Ytkmikpmbnfcbpaa
open Go.RowKit
set_option linter.unusedVariables false

theorem take_snoc (l : List UInt8) (k : Nat) (h : k < l.length) : l.take (k + 1) = l.take k ++ [l.getD k 0] := by
  rw [List.take_succ_eq_append_getElem h]; simp [h]
theorem getD_eq {α : Type} {l : List α} {k : Nat} {d : α} (h : k < l.length) : l.getD k d = l[k] := by
  rw [List.getD_eq_getElem?_getD, List.getElem?_eq_getElem h]; rfl
theorem toNat_ofNat {n : Nat} (h : n < 256) : (UInt8.ofNat n).toNat = n := by rw [UInt8.toNat_ofNat']; omega
def cells (bs : List UInt8) : List Value := bs.map fun c => .int .u8 c.toNat
theorem cells_len (bs : List UInt8) : (cells bs).length = bs.length := by simp [cells]
theorem cells_append (a b : List UInt8) : cells (a ++ b) = cells a ++ cells b := by simp [cells]
theorem cells_one (bs : List UInt8) : ∀ u ∈ cells bs, u.oneCell' = true := by
  intro u hu
  obtain ⟨n, _, rfl⟩ := List.mem_map.1 hu
  rfl
theorem cells_get {bs : List UInt8} {i : Nat} (h : i < bs.length) : (cells bs)[i]? = some (.int .u8 (bs.getD i 0).toNat) := by
  simp [cells, List.getElem?_eq_getElem h, List.getD_eq_getElem?_getD]

/-- A slice of bytes (address, length) that reads as bs and lies below block B. -/
def Byt (w : World) (B : Nat) (a : Option Addr) (n : Nat) (bs : List UInt8) : Prop :=
  bs.length = n ∧ (n = 0 ∨ ∃ b off, a = some ⟨b, off, none⟩ ∧ b < B ∧ ∀ i, i < n → w.cell? ⟨b, off + i, none⟩ = some (.int .u8 (bs.getD i 0).toNat))
/-- A slice of slices of bytes that reads as bss and lies below block B. -/
def Lst (w : World) (B : Nat) (a : Option Addr) (n : Nat) (bss : List (List UInt8)) : Prop :=
  bss.length = n ∧ (n = 0 ∨ ∃ b off, a = some ⟨b, off, none⟩ ∧ b < B ∧ ∀ i, i < n → ∃ A l c, w.cell? ⟨b, off + i, none⟩ = some (.slice A l c) ∧ l ≤ c ∧ c ≤ 9223372036854775807 ∧ Byt w B A l (bss.getD i []))

theorem add_plain (b off i : Nat) : (⟨b, off, none⟩ : Addr).add i = ⟨b, off + i, none⟩ := by unfold Addr.add; split <;> simp_all
theorem lt_of_cell {w : World} {a : Addr} {v : Value} (h : w.cell? a = some v) : a.block < w.heap.size := World.block_lt_of_cell? w a h
theorem bcell {W w1 : World} (hb : Below W.heap.size W w1) : (∀ b o, b < W.heap.size → w1.cell? ⟨b, o, none⟩ = W.cell? ⟨b, o, none⟩) ∧ (∀ b o, b < W.heap.size → w1.frozen? ⟨b, o, none⟩ = W.frozen? ⟨b, o, none⟩) :=
  ⟨fun b o h => hb.cell (p := ⟨b, o, none⟩) h, fun b o h => hb.frozen (p := ⟨b, o, none⟩) h⟩

section
variable {w w' : World} {B B' n : Nat} {a : Option Addr} {bs : List UInt8} {bss : List (List UInt8)}
theorem Byt.keep (h : Byt w B a n bs) (hk : ∀ b o, b < B → w'.cell? ⟨b, o, none⟩ = w.cell? ⟨b, o, none⟩) : Byt w' B a n bs := by
  refine ⟨h.1, ?_⟩
  rcases h.2 with h0 | ⟨b, off, rfl, hb, hc⟩
  · exact .inl h0
  · exact .inr ⟨b, off, rfl, hb, fun i hi => (hk b _ hb).trans (hc i hi)⟩
theorem Byt.more (h : Byt w B a n bs) (hB : B ≤ B') : Byt w B' a n bs := by
  refine ⟨h.1, ?_⟩
  rcases h.2 with h0 | ⟨b, off, rfl, hb, hc⟩
  · exact .inl h0
  · exact .inr ⟨b, off, rfl, by omega, hc⟩
theorem Byt.below (h : Byt w B a n bs) (hb : Below B w w') : Byt w' B a n bs := h.keep fun b o hp => hb.cell (p := ⟨b, o, none⟩) hp
theorem Byt.alloc (h : Byt w B a n bs) (hB : B ≤ w.heap.size) (o : Obj) : Byt (w.alloc o) B a n bs := h.below ((Below.refl _ _).alloc hB o)
theorem Byt.drew (h : Byt w B a n bs) : Byt w.drew B a n bs := h
theorem Byt.nil : Byt w B a 0 [] := ⟨rfl, .inl rfl⟩
theorem Byt.at_ (h : Byt w B a n bs) {i : Nat} (hi : i < n) : ∃ b off, a = some ⟨b, off, none⟩ ∧ b < B ∧ ∀ i, i < n → w.cell? ⟨b, off + i, none⟩ = some (.int .u8 (bs.getD i 0).toNat) := by
  rcases h.2 with h0 | h
  · omega
  · exact h
theorem Lst.keep (h : Lst w B a n bss) (hk : ∀ b o, b < B → w'.cell? ⟨b, o, none⟩ = w.cell? ⟨b, o, none⟩) : Lst w' B a n bss := by
  refine ⟨h.1, ?_⟩
  rcases h.2 with h0 | ⟨b, off, rfl, hb, hc⟩
  · exact .inl h0
  · refine .inr ⟨b, off, rfl, hb, fun i hi => ?_⟩
    obtain ⟨A, l, c, h1, h2, h3, h4⟩ := hc i hi
    exact ⟨A, l, c, (hk b _ hb).trans h1, h2, h3, h4.keep hk⟩
theorem Lst.more (h : Lst w B a n bss) (hB : B ≤ B') : Lst w B' a n bss := by
  refine ⟨h.1, ?_⟩
  rcases h.2 with h0 | ⟨b, off, rfl, hb, hc⟩
  · exact .inl h0
  · refine .inr ⟨b, off, rfl, by omega, fun i hi => ?_⟩
    obtain ⟨A, l, c, h1, h2, h3, h4⟩ := hc i hi
    exact ⟨A, l, c, h1, h2, h3, h4.more hB⟩
theorem Lst.below (h : Lst w B a n bss) (hb : Below B w w') : Lst w' B a n bss := h.keep fun b o hp => hb.cell (p := ⟨b, o, none⟩) hp
theorem Lst.alloc (h : Lst w B a n bss) (hB : B ≤ w.heap.size) (o : Obj) : Lst (w.alloc o) B a n bss := h.below ((Below.refl _ _).alloc hB o)
theorem Lst.nil : Lst w B a 0 [] := ⟨rfl, .inl rfl⟩
end
theorem ret_int {k : IntKind} {a b : Int} (h : a = b) : Ending.returned (.int k a) = .returned (.int k b) := by rw [h]
set_option maxHeartbeats 400000
theorem block_of_add (a : Addr) (n : Nat) : (a.add n).block = a.block := by unfold Addr.add; split <;> rfl
theorem add_of_add (a : Addr) (i j : Nat) : (a.add i).add j = a.add (i + j) := by
  unfold Addr.add
  by_cases hi : i = 0 <;> by_cases hj : j = 0 <;> simp [hi, hj, Nat.add_assoc]

def Reads (w : World) (B size : Nat) (A : Option Addr) (n : Nat) (xs : List Value) : Prop :=
  xs.length = n * size ∧ (0 < n → ∃ ad, A = some ad ∧ ad.block < B ∧ ∀ j u, xs[j]? = some u → w.cell? (ad.add j) = some u)

section
variable {w w' : World} {B B' size n : Nat} {A : Option Addr} {xs : List Value}
theorem Reads.none_ : Reads w B size A 0 [] := ⟨by simp, fun h => absurd h (by omega)⟩
theorem Reads.at_ {k : Nat} (h : Reads w B 1 A n xs) (hk : k < n) : ∃ ad u, A = some ad ∧ ad.block < B ∧ xs[k]? = some u ∧ w.cell? (ad.add k) = some u := by
  obtain ⟨ad, e, hb, hc⟩ := h.2 (by omega)
  have hl : k < xs.length := by have := h.1; omega
  exact ⟨ad, xs[k], e, hb, List.getElem?_eq_getElem hl, hc k _ (List.getElem?_eq_getElem hl)⟩
theorem Reads.keep (h : Reads w B size A n xs) (hk : ∀ p : Addr, p.block < B → w'.cell? p = w.cell? p) : Reads w' B size A n xs :=
  ⟨h.1, fun hn => by
    obtain ⟨ad, e, hb, hc⟩ := h.2 hn
    exact ⟨ad, e, hb, fun j u hu => (hk _ (by rw [block_of_add]; exact hb)).trans (hc j u hu)⟩⟩
theorem Reads.more (h : Reads w B size A n xs) (hB : B ≤ B') : Reads w B' size A n xs :=
  ⟨h.1, fun hn => by
    obtain ⟨ad, e, hb, hc⟩ := h.2 hn
    exact ⟨ad, e, by omega, hc⟩⟩
theorem Reads.below (h : Reads w B size A n xs) (hb : Below B w w') : Reads w' B size A n xs := h.keep fun _ hp => hb.cell hp
theorem Reads.drew (h : Reads w B size A n xs) : Reads w.drew B size A n xs := h
theorem Reads.drewN (h : Reads w B size A n xs) (k : Nat) : Reads (w.drewN k) B size A n xs := h
theorem Reads.alloc (h : Reads w B size A n xs) (hB : B ≤ w.heap.size) (o : Obj) : Reads (w.alloc o) B size A n xs := h.keep fun p hp => World.cell?_alloc_lt w o p (by omega)
theorem Reads.setCell (h : Reads w B size A n xs) {p : Addr} (hB : B ≤ p.block) (u : Value) : Reads (w.setCell p u) B size A n xs :=
  h.keep fun q hq => World.cell?_setCell_other w p q u (fun e => by subst e; omega)
theorem Reads.grown (h : Reads w B size A n xs) {row : Option Nat} (hg : w.grownBy w' row) (hB : B ≤ w.heap.size) (hr : ∀ g, row = some g → B ≤ g) : Reads w' B size A n xs :=
  h.keep fun p hp => World.cell?_of_block (hg.block p.block (by omega) (fun e => by have := hr _ e.symm; omega))
theorem Reads.cut (h : Reads w B size A n xs) {k cap : Nat} (hk : k ≤ n) (hc : n ≤ cap) :
    Reads w B size (if cap = k then A else A.map (·.add (k * size))) (n - k) (xs.drop (k * size)) := by
  refine ⟨by rw [List.length_drop, h.1, Nat.sub_mul], fun hn => ?_⟩
  obtain ⟨ad, rfl, hb, hcell⟩ := h.2 (by omega)
  rw [if_neg (by omega)]
  refine ⟨ad.add (k * size), rfl, by rw [block_of_add]; exact hb, fun j u hu => ?_⟩
  rw [add_of_add]
  exact hcell _ u (by rw [← hu, List.getElem?_drop])
theorem Reads.of_own {base : Nat} {e : TypeId} {c : Nat} (h : w.ownsRow base e size (.slice A n c) n xs) : Reads w w.heap.size size A n xs := by
  refine ⟨h.1, fun hn => ?_⟩
  obtain ⟨g, cap, hv, _, hlt⟩ := h.form hn
  have hA : A = some ⟨g, 0, none⟩ := by injection hv
  subst hA
  exact ⟨_, rfl, hlt, h.cells (g := g) rfl⟩
end

def Blk (w : World) (g : Nat) (t : TypeId) (cs : Array Value) : Prop := w.heap[g]? = some (.cells cs t (0, 0))

section
variable {w w' : World} {g : Nat} {t : TypeId} {cs : Array Value}
theorem Blk.lt (h : Blk w g t cs) : g < w.heap.size := by
  rcases Nat.lt_or_ge g w.heap.size with hlt | hge
  · exact hlt
  · unfold Blk at h; rw [Array.getElem?_eq_none hge] at h; cases h
theorem Blk.cell (h : Blk w g t cs) (i : Nat) : w.cell? ⟨g, i, none⟩ = cs[i]? := cell_of_row w g i cs t (0, 0) h
theorem Blk.frozen (h : Blk w g t cs) (i : Nat) : w.frozen? ⟨g, i, none⟩ = false := by
  unfold Blk at h
  simp [World.frozen?, h]
theorem Blk.new (w : World) (t : TypeId) (cs : Array Value) : Blk (w.alloc (.cells cs t)) w.heap.size t cs := heap_alloc_new w _
theorem Blk.drew (h : Blk w g t cs) : Blk w.drew g t cs := h
theorem Blk.drewN (h : Blk w g t cs) (n : Nat) : Blk (w.drewN n) g t cs := h
theorem Blk.alloc (h : Blk w g t cs) (o : Obj) : Blk (w.alloc o) g t cs := (Below.heap_alloc w o g h.lt).trans h
theorem Blk.set_ (h : Blk w g t cs) (i : Nat) (u : Value) : Blk (w.setCell ⟨g, i, none⟩ u) g t (cs.setIfInBounds i u) := by
  unfold Blk at h ⊢
  simp [World.setCell, Array.getElem?_modify, h]
theorem Blk.far (h : Blk w g t cs) {p : Addr} (hp : g ≠ p.block) (u : Value) : Blk (w.setCell p u) g t cs := (Below.heap_setCell w p u g hp).trans h
theorem Blk.below {B : Nat} (h : Blk w g t cs) (hb : Below B w w') (hg : g < B) : Blk w' g t cs := (hb.block g hg).trans h
theorem Blk.grown {row : Option Nat} (h : Blk w g t cs) (hb : w.grownBy w' row) (hg : some g ≠ row) : Blk w' g t cs := (hb.block g h.lt hg).trans h
theorem Blk.ne_ {g' : Nat} {t' : TypeId} {cs' : Array Value} (h : Blk w g t cs) (h' : Blk w g' t' cs') (hne : t ≠ t') : g ≠ g' := by
  rintro rfl
  unfold Blk at h h'
  rw [h] at h'
  injection h' with h'
  injection h' with _ ht
  exact hne ht
theorem own_blk_ne {base : Nat} {e : TypeId} {size n : Nat} {v : Value} {xs : List Value} (h : w.ownsRow base e size v n xs) (hg : Blk w g t cs) (hne : e ≠ t) : v.ownBlock ≠ some g := by
  rcases h.2 with ⟨rfl, _⟩ | ⟨g', cap, cur, rfl, _, hh, _⟩
  · simp [Value.ownBlock]
  · intro he
    have : g' = g := by simpa [Value.ownBlock] using he
    subst this
    exact Blk.ne_ (t := e) hh hg hne rfl
end

section
variable {P : Program} (w : World)

theorem run_append_of_nil (base : Nat) (t ty e : TypeId) (i : TypeInfo) (size : Nat) (ht : P.underlying t = some (.slice e)) (hi : P.info? e = some i)
    (v : Value) (n : Nat) (xs : List Value) (hown : w.ownsRow base e size v n xs) (c : Nat) : (Builtin.append_ #[t, t] ty #[v, .slice none 0 c]).run P w = .ok v w := by
  rcases hown.2 with ⟨rfl, rfl⟩ | ⟨g, cap, cur, rfl, _, _, hnc, _⟩
  · simp [Builtin.append_, run_underlying ht, sizeOf, typeInfo, hi, Builtin.lenOf, Builtin.firstCells]
  · simp [Builtin.append_, run_underlying ht, sizeOf, typeInfo, hi, Builtin.lenOf, Builtin.firstCells, hnc, storeCells]

theorem run_append_any (base : Nat) (t ty e : TypeId) (i : TypeInfo) (z : Value) (size bytes : Nat) (ht : P.underlying t = some (.slice e)) (hi : P.info? e = some i) (hz : i.zero = some z)
    (hsize : i.size = size) (hby : i.bytes = bytes) (hzs : z.cells.size = size) (hsz : 0 < size)
    (v : Value) (n : Nat) (xs : List Value) (hown : w.ownsRow base e size v n xs)
    (B : Nat) (A : Option Addr) (m c : Nat) (news : List Value) (hr : Reads w B size A m news) (h1 : ∀ u ∈ news, u.oneCell' = true)
    (h63 : n + m ≤ maxLen) (hbytes : (n + m) * bytes ≤ 140737488355328) (hbase : base ≤ w.heap.size) :
    ∃ v' w', (Builtin.append_ #[t, t] ty #[v, .slice A m c]).run P w = .ok v' w' ∧ w'.ownsRow base e size v' (n + m) (xs ++ news) ∧ w.grownBy w' v.ownBlock ∧
      (v'.ownBlock = v.ownBlock ∨ v'.ownBlock = some w.heap.size) := by
  rcases A with _ | ad
  · have hm : m = 0 := by
      rcases Nat.eq_zero_or_pos m with h0 | h0
      · exact h0
      · obtain ⟨ad, h, _⟩ := hr.2 h0
        cases h
    subst hm
    have hn : news = [] := List.eq_nil_of_length_eq_zero (by simpa using hr.1)
    subst hn
    exact ⟨v, w, run_append_of_nil w base t ty e i size ht hi v n xs hown c, by simpa using hown, World.grownBy.refl w _, .inl rfl⟩
  · have hcells : ∀ j u, news[j]? = some u → w.cell? (ad.add j) = some u := by
      intro j u hu
      rcases Nat.eq_zero_or_pos m with h0 | h0
      · subst h0
        have hn : news = [] := List.eq_nil_of_length_eq_zero (by simpa using hr.1)
        subst hn
        simp at hu
      · obtain ⟨ad', h, _, hc⟩ := hr.2 h0
        injection h with h
        subst h
        exact hc j u hu
    obtain ⟨v', w', hrun, h2, h3, _, h5⟩ := run_append_own_at (P := P) w base t ty e i z size bytes ht hi hz hsize hby hzs hsz v n xs hown ad m c news hr.1 hcells h1 h63 hbytes hbase
    exact ⟨v', w', hrun, h2, h3, h5⟩

theorem wp_append_any {o : Oper} {a : Act} {K : Act → World → Prop} {Q : Exit → Act → World → Prop} (s x : Operand) (t : TypeId)
    (ho : o.op = .call { callee := .builtin .append, args := #[s, x], argTypes := #[t, t] })
    (base : Nat) (e : TypeId) (i : TypeInfo) (z : Value) (size bytes : Nat) (ht : P.underlying t = some (.slice e)) (hi : P.info? e = some i) (hz : i.zero = some z)
    (hsize : i.size = size) (hby : i.bytes = bytes) (hzs : z.cells.size = size) (hsz : 0 < size)
    (v : Value) (n : Nat) (xs : List Value) (hs : a.eval s = v) (hown : w.ownsRow base e size v n xs)
    (B : Nat) (A : Option Addr) (m c : Nat) (news : List Value) (hx : a.eval x = .slice A m c) (hr : Reads w B size A m news) (h1 : ∀ u ∈ news, u.oneCell' = true)
    (h63 : n + m ≤ maxLen) (hbytes : (n + m) * bytes ≤ 140737488355328) (hbase : base ≤ w.heap.size)
    (h : ∀ v' w', w'.ownsRow base e size v' (n + m) (xs ++ news) → w.grownBy w' v.ownBlock → (v'.ownBlock = v.ownBlock ∨ v'.ownBlock = some w.heap.size) → K (a.put o.dst v') w') : o.wp P a w K Q := by
  obtain ⟨v', w', hrun, h2, h3, h4⟩ := run_append_any (P := P) w base t o.type e i z size bytes ht hi hz hsize hby hzs hsz v n xs hown B A m c news hr h1 h63 hbytes hbase
  unfold Oper.wp execOp
  simp only [ho, resolve, invoke, builtin, Sem.run_bind, Sem.run_pure, Result.andThen_ok, List.map_toArray, List.map_cons, List.map_nil, hs, hx, hrun]
  exact h v' w' h2 h3 h4

theorem wpList_append_any {ops : Array Oper} {rest : List Oper} {o : Oper} {a : Act} {Q : Exit → Act → World → Prop} (hgd : o.guard = none) (s x : Operand) (t : TypeId)
    (ho : o.op = .call { callee := .builtin .append, args := #[s, x], argTypes := #[t, t] })
    (base : Nat) (e : TypeId) (i : TypeInfo) (z : Value) (size bytes : Nat) (ht : P.underlying t = some (.slice e)) (hi : P.info? e = some i) (hz : i.zero = some z)
    (hsize : i.size = size) (hby : i.bytes = bytes) (hzs : z.cells.size = size) (hsz : 0 < size)
    (v : Value) (n : Nat) (xs : List Value) (hs : a.eval s = v) (hown : w.ownsRow base e size v n xs)
    (B : Nat) (A : Option Addr) (m c : Nat) (news : List Value) (hx : a.eval x = .slice A m c) (hr : Reads w B size A m news) (h1 : ∀ u ∈ news, u.oneCell' = true)
    (h63 : n + m ≤ maxLen) (hbytes : (n + m) * bytes ≤ 140737488355328) (hbase : base ≤ w.heap.size)
    (h : ∀ v' w', w'.ownsRow base e size v' (n + m) (xs ++ news) → w.grownBy w' v.ownBlock → (v'.ownBlock = v.ownBlock ∨ v'.ownBlock = some w.heap.size) → wpList P ops Q rest (a.put o.dst v') w') : wpList P ops Q (o :: rest) a w :=
  wpList_plain hgd fun _ hK => wp_append_any w s x t ho base e i z size bytes ht hi hz hsize hby hzs hsz v n xs hs hown B A m c news hx hr h1 h63 hbytes hbase fun v' w' h2 h3 h4 => hK _ _ (h v' w' h2 h3 h4)

theorem step_append_any {ops : Array Oper} {o : Oper} {a : Act} {K : Act → World → Prop} {Q : Exit → Act → World → Prop} {E : Prop} (hgd : o.guard = none) (s x : Operand) (t : TypeId)
    (ho : o.op = .call { callee := .builtin .append, args := #[s, x], argTypes := #[t, t] })
    (base : Nat) (e : TypeId) (i : TypeInfo) (z : Value) (size bytes : Nat) (ht : P.underlying t = some (.slice e)) (hi : P.info? e = some i) (hz : i.zero = some z)
    (hsize : i.size = size) (hby : i.bytes = bytes) (hzs : z.cells.size = size) (hsz : 0 < size)
    (v : Value) (n : Nat) (xs : List Value) (hs : a.eval s = v) (hown : w.ownsRow base e size v n xs)
    (B : Nat) (A : Option Addr) (m c : Nat) (news : List Value) (hx : a.eval x = .slice A m c) (hr : Reads w B size A m news) (h1 : ∀ u ∈ news, u.oneCell' = true)
    (h63 : n + m ≤ maxLen) (hbytes : (n + m) * bytes ≤ 140737488355328) (hbase : base ≤ w.heap.size)
    (h : ∀ v' w', w'.ownsRow base e size v' (n + m) (xs ++ news) → w.grownBy w' v.ownBlock → (v'.ownBlock = v.ownBlock ∨ v'.ownBlock = some w.heap.size) → K (a.put o.dst v') w') :
    if Region.wanted o (yielded ops a.tmps) = true then Oper.wp P o a w K Q else E := by
  have hw : Region.wanted o (yielded ops a.tmps) = true := by simp [Region.wanted, hgd]
  rw [if_pos hw]
  exact wp_append_any w s x t ho base e i z size bytes ht hi hz hsize hby hzs hsz v n xs hs hown B A m c news hx hr h1 h63 hbytes hbase h
end
/-- A row of the call's own that holds the bytes bs. -/
def OwnB (w : World) (base : Nat) (v : Value) (bs : List UInt8) : Prop := w.ownsRow base 5 1 v bs.length (cells bs)
theorem OwnB.nil (w : World) (base : Nat) : OwnB w base (.slice none 0 0) [] := World.ownsRow_nil _ _ _ _
theorem OwnB.form {w : World} {base : Nat} {v : Value} {bs : List UInt8} (h : OwnB w base v bs) :
    ∃ a cap, v = .slice a bs.length cap ∧ bs.length ≤ cap ∧ cap ≤ 9223372036854775807 ∧ Byt w w.heap.size a bs.length bs := by
  rcases h.2 with ⟨rfl, h0⟩ | ⟨g, cap, cur, rfl, hb, hg, hn, hm, hr⟩
  · exact ⟨none, 0, by rw [h0], by omega, by omega, rfl, .inl h0⟩
  · refine ⟨_, cap, rfl, hn, by unfold maxLen at hm; omega, rfl, ?_⟩
    rcases Nat.eq_zero_or_pos bs.length with h0 | h0
    · exact .inl h0
    · refine .inr ⟨g, 0, rfl, (Array.getElem?_eq_some_iff.1 hg).1, fun i hi => ?_⟩
      have := World.ownsRow.cells (h : w.ownsRow base 5 1 _ _ _) (g := g) rfl i _ (cells_get hi)
      rwa [add_plain] at this
theorem Byt.reads {w : World} {B n : Nat} {a : Option Addr} {bs : List UInt8} (h : Byt w B a n bs) : Reads w B 1 a n (cells bs) := by
  refine ⟨by rw [cells_len, h.1, Nat.mul_one], fun h0 => ?_⟩
  obtain ⟨b, off, rfl, hb, hc⟩ := h.at_ h0
  refine ⟨_, rfl, hb, fun j u hu => ?_⟩
  have hj : j < bs.length := by have := (List.getElem?_eq_some_iff.1 hu).1; rwa [cells_len] at this
  rw [add_plain, hc j (by rw [← h.1]; exact hj)]
  rw [cells_get hj] at hu
  exact hu
theorem OwnB.lt {w : World} {base : Nat} {v : Value} {bs : List UInt8} (h : OwnB w base v bs) : ∀ k, v.ownBlock = some k → base ≤ k ∧ k < w.heap.size := World.ownsRow.lt h
theorem OwnB.below {w w' : World} {base : Nat} {v : Value} {bs : List UInt8} (h : OwnB w base v bs) (hb : Below w.heap.size w w') : OwnB w' base v bs := by
  refine ⟨h.1, ?_⟩
  rcases h.2 with h0 | ⟨g, cap, cur, rfl, hbg, hg, hr⟩
  · exact .inl h0
  · exact .inr ⟨g, cap, cur, rfl, hbg, by rw [hb.block g (Array.getElem?_eq_some_iff.1 hg).1]; exact hg, hr⟩
theorem _root_.Go.World.ownsRow.base {w : World} {base base' : Nat} {e : TypeId} {size n : Nat} {v : Value} {xs : List Value} (h : w.ownsRow base e size v n xs) (hb : base' ≤ base) : w.ownsRow base' e size v n xs := by
  refine ⟨h.1, ?_⟩
  rcases h.2 with h0 | ⟨g, cap, cur, rfl, hbg, hr⟩
  · exact .inl h0
  · exact .inr ⟨g, cap, cur, rfl, by omega, hr⟩
def RetB (w : World) (bs : List UInt8) (e : Ending) (w' : World) : Prop := ∃ v, e = .returned v ∧ OwnB w' w.heap.size v bs ∧ Below w.heap.size w w'
def RetB2 (w : World) (bs : List UInt8) (e : Ending) (w' : World) : Prop := ∃ v, e = .returned (.tuple #[v, .int .i64 0]) ∧ OwnB w' w.heap.size v bs ∧ Below w.heap.size w w'
theorem byte_info : (Try.prog.info? 5).map (fun i => (i.zero, i.size, i.bytes)) = some (some (.int .u8 0), 1, 1) := by kernel_rfl
theorem cell_new {W : World} {n j : Nat} {C : Array Value} {t : TypeId} {fr : Nat × Nat} (h : n = W.heap.size) : (W.alloc (.cells C t fr)).cell? ⟨n, j, none⟩ = C[j]? := by
  subst h; exact World.cell?_alloc_mark _ _ _ _ _
theorem size_alloc (W : World) (o : Obj) : (W.alloc o).heap.size = W.heap.size + 1 := by simp
theorem new_byt (w : World) (bs : List UInt8) : Byt (w.alloc (.cells (cells bs).toArray 5)) (w.heap.size + 1) (some ⟨w.heap.size, 0, none⟩) bs.length bs := by
  refine ⟨rfl, .inr ⟨_, 0, rfl, by omega, fun i hi => ?_⟩⟩
  rw [Nat.zero_add, cell_new rfl, List.getElem?_toArray, cells_get hi]
theorem new_own (w : World) (bs : List UInt8) (hn : bs.length ≤ 9223372036854775807) : OwnB (w.alloc (.cells (cells bs).toArray 5)) w.heap.size (.slice (some ⟨w.heap.size, 0, none⟩) bs.length bs.length) bs := by
  refine ⟨by rw [cells_len, Nat.mul_one], .inr ⟨w.heap.size, bs.length, _, rfl, Nat.le_refl _, heap_alloc_new w _, Nat.le_refl _, by unfold maxLen; omega, by simp [cells_len], ?_⟩⟩
  rw [Nat.mul_one]
  show (cells bs).take bs.length = cells bs
  rw [← cells_len bs, List.take_length]
theorem OwnB.form_ {w : World} {base n : Nat} {v : Value} {bs : List UInt8} (h : OwnB w base v bs) (hn : bs.length = n) :
    ∃ a cap, v = .slice a n cap ∧ n ≤ cap ∧ cap ≤ 9223372036854775807 ∧ Byt w w.heap.size a n bs := by subst hn; exact h.form
/-- string(b) of bytes. -/
theorem conv_byt {w : World} {B : Nat} {a : Option Addr} {n cap : Nat} {bs : List UInt8} (h : Byt w B a n bs) :
    (convert 22 9 (.slice a n cap)).run Try.prog w = .ok (.string ⟨bs.toArray⟩) w := by
  rcases a with _ | ad
  · have h0 : n = 0 := by
      rcases h.2 with h0 | ⟨_, _, e, _⟩
      · exact h0
      · cases e
    subst h0
    have : bs = [] := List.length_eq_zero_iff.1 h.1
    subst this
    exact run_convert_bytes_nil (P := Try.prog) w 22 5 Try.underlying22 Try.underlying5 0 cap 9 Try.underlying9
  · rw [← h.1]
    refine run_convert_bytes_back (P := Try.prog) w 22 9 5 ad cap bs Try.underlying22 Try.underlying5 Try.underlying9 (fun j hj => ?_)
    rw [h.1] at hj
    obtain ⟨b, off, e, _, hc⟩ := h.at_ hj
    injection e with e
    subst e
    rw [add_plain, hc j hj, getD_eq (by rw [h.1]; exact hj)]
/-- Only blocks that S names may have been written. -/
structure Moved (w w' : World) (S : Nat → Prop) : Prop where
  os : w'.os = w.os
  tape : w'.tape = w.tape
  output : w'.output = w.output
  size : w.heap.size ≤ w'.heap.size
  block : ∀ k, k < w.heap.size → ¬ S k → w'.heap[k]? = w.heap[k]?
theorem Moved.below {w w' : World} {S : Nat → Prop} {B : Nat} (h : Moved w w' S) (hS : ∀ k, S k → B ≤ k) (hB : B ≤ w.heap.size) : Below B w w' :=
  ⟨h.os, h.tape, h.output, h.size, fun k hk => h.block k (by omega) (fun hs => by have := hS k hs; omega)⟩
theorem Moved.trans {a b c : World} {S S' : Nat → Prop} (h : Moved a b S) (k : Moved b c S') (hS : ∀ i, i < a.heap.size → S' i → S i) : Moved a c S :=
  ⟨k.os.trans h.os, k.tape.trans h.tape, k.output.trans h.output, Nat.le_trans h.size k.size, fun i hi hn => (k.block i (Nat.lt_of_lt_of_le hi h.size) (fun e => hn (hS i hi e))).trans (h.block i hi hn)⟩
theorem Moved.of_below {w w' : World} {S : Nat → Prop} (h : Below w.heap.size w w') : Moved w w' S := ⟨h.os, h.tape, h.output, h.size, fun k hk _ => h.block k hk⟩
theorem Moved.refl (w : World) (S : Nat → Prop) : Moved w w S := ⟨rfl, rfl, rfl, Nat.le_refl _, fun _ _ _ => rfl⟩
theorem OwnB.keep {w w' : World} {base : Nat} {v : Value} {bs : List UInt8} (h : OwnB w base v bs) (hk : ∀ k, v.ownBlock = some k → w'.heap[k]? = w.heap[k]?) : OwnB w' base v bs := by
  refine ⟨h.1, ?_⟩
  rcases h.2 with h0 | ⟨g, cap, cur, rfl, hbg, hg, hr⟩
  · exact .inl h0
  · exact .inr ⟨g, cap, cur, rfl, hbg, by rw [hk g rfl]; exact hg, hr⟩
section
variable {w w1 w2 : World} {S : Nat → Prop}
theorem Moved.grown {row : Option Nat} (h : Moved w w1 S) (hg : w1.grownBy w2 row) (hr : ∀ k, row = some k → k < w.heap.size → S k) : Moved w w2 S :=
  ⟨hg.os.trans h.os, hg.tape.trans h.tape, hg.output.trans h.output, Nat.le_trans h.size hg.size, fun i hi hn => (hg.block i (Nat.lt_of_lt_of_le hi h.size) (fun e => hn (hr i e.symm hi))).trans (h.block i hi hn)⟩
theorem Moved.alloc (h : Moved w w1 S) (o : Obj) : Moved w (w1.alloc o) S := h.grown (World.grownBy_alloc w1 o none) (fun k hk => by cases hk)
theorem Moved.drew (h : Moved w w1 S) : Moved w w1.drew S := ⟨h.os, h.tape, h.output, h.size, h.block⟩
theorem Moved.setCell (h : Moved w w1 S) {p : Addr} (hp : p.block < w.heap.size → S p.block) (v : Value) : Moved w (w1.setCell p v) S :=
  ⟨h.os, h.tape, h.output, by simp [World.setCell]; exact h.size, fun i hi hn => (Below.heap_setCell w1 p v i (fun e => hn (by subst e; exact hp hi))).trans (h.block i hi hn)⟩
end
theorem run_size5 (W : World) : (sizeOf (Try.prog.elem 22)).run Try.prog W = .ok 1 W := by kernel_rfl
/-- A part of a slice of bytes: where it lies, and what it reads as. -/
theorem cut_run {w : World} {B n cap : Nat} {a : Option Addr} {bs : List UInt8} (h : Byt w B a n bs) (hc : n ≤ cap) (lo hi : Nat) (h1 : lo ≤ hi) (h2 : hi ≤ n) :
    ∃ A, (∀ (W : World) (lI hI : Int), lI = lo → hI = hi → (Instr.slice 22 (.slice a n cap) (some (.int .i64 lI)) (some (.int .i64 hI)) none).run Try.prog W = .ok (.slice A (hi - lo) (cap - lo)) W) ∧
      Byt w B A (hi - lo) ((bs.drop lo).take (hi - lo)) := by
  refine ⟨if cap = lo then a else a.map (·.add (lo * 1)), fun W lI hI e1 e2 => ?_, ?_⟩
  · subst e1 e2
    rw [run_slice_lh (P := Try.prog) W 22 a n cap (by kernel_rfl) .i64 .i64 _ _ (by omega) (by omega) (by omega), run_size5]
    rfl
  · refine ⟨by rw [List.length_take, List.length_drop, h.1]; omega, ?_⟩
    rcases Nat.eq_zero_or_pos (hi - lo) with h0 | h0
    · exact .inl h0
    · right
      obtain ⟨b, off, rfl, hb, hcell⟩ := h.at_ (i := lo) (by omega)
      refine ⟨b, off + lo, ?_, hb, fun i hi' => ?_⟩
      · rw [if_neg (by omega)]
        simp only [Option.map_some, Nat.mul_one, Option.some.injEq]
        exact add_plain b off lo
      · rw [Nat.add_assoc, hcell (lo + i) (by omega)]
        congr 4
        rw [List.getD_eq_getElem?_getD, List.getD_eq_getElem?_getD, List.getElem?_take, if_pos hi', List.getElem?_drop]
theorem cut_to {w : World} {B n cap : Nat} {a : Option Addr} {bs : List UInt8} (h : Byt w B a n bs) (hc : n ≤ cap) (hi : Nat) (h2 : hi ≤ n) :
    ∃ A, (∀ (W : World) (hI : Int), hI = hi → (Instr.slice 22 (.slice a n cap) none (some (.int .i64 hI)) none).run Try.prog W = .ok (.slice A hi cap) W) ∧ Byt w B A hi (bs.take hi) := by
  obtain ⟨A, h1, h3⟩ := cut_run h hc 0 hi (by omega) h2
  refine ⟨if cap = 0 then a else a.map (·.add (0 * 1)), fun W hI e => ?_, ?_⟩
  · subst e
    rw [run_slice_h (P := Try.prog) W 22 a n cap (by kernel_rfl) .i64 _ (by omega) (by omega), run_size5]
    rfl
  · have h4 := h1 w 0 hi rfl rfl
    rw [run_slice_lh (P := Try.prog) w 22 a n cap (by kernel_rfl) .i64 .i64 _ _ (by omega) (by omega) (by omega), run_size5] at h4
    have h5 : A = if cap = 0 then a else a.map (·.add (0 * 1)) := by
      simp only [Result.andThen, sliced] at h4
      injection h4 with h4 _
      injection h4 with h4 _ _
      exact h4.symm
    rw [← h5]
    simpa using h3
theorem cut_from {w : World} {B n cap : Nat} {a : Option Addr} {bs : List UInt8} (h : Byt w B a n bs) (hc : n ≤ cap) (lo : Nat) (h2 : lo ≤ n) :
    ∃ A, (∀ (W : World) (lI : Int), lI = lo → (Instr.slice 22 (.slice a n cap) (some (.int .i64 lI)) none none).run Try.prog W = .ok (.slice A (n - lo) (cap - lo)) W) ∧ Byt w B A (n - lo) (bs.drop lo) := by
  obtain ⟨A, h1, h3⟩ := cut_run h hc lo n (by omega) (Nat.le_refl _)
  refine ⟨if cap = lo then a else a.map (·.add (lo * 1)), fun W lI e => ?_, ?_⟩
  · subst e
    rw [run_slice_l (P := Try.prog) W 22 a n cap (by kernel_rfl) .i64 _ (by omega) (by omega), run_size5]
    rfl
  · have h4 := h1 w lo n rfl rfl
    rw [run_slice_lh (P := Try.prog) w 22 a n cap (by kernel_rfl) .i64 .i64 _ _ (by omega) (by omega) (by omega), run_size5] at h4
    have h5 : A = if cap = lo then a else a.map (·.add (lo * 1)) := by
      simp only [Result.andThen, sliced, Int.toNat_natCast] at h4
      injection h4 with h4 _
      injection h4 with h4 _ _
      exact h4.symm
    rw [← h5]
    rwa [List.take_of_length_le (by rw [List.length_drop, h.1]; exact Nat.le_refl _)] at h3
theorem below_drewN {B : Nat} {a w : World} (h : Below B a w) (n : Nat) : Below B a (w.drewN n) := ⟨h.os, h.tape, h.output, h.size, h.block⟩
theorem OwnB.base {w : World} {base base' : Nat} {v : Value} {bs : List UInt8} (h : OwnB w base v bs) (hb : base' ≤ base) : OwnB w base' v bs := World.ownsRow.base h hb
theorem Byt.pre {w : World} {B n : Nat} {a : Option Addr} {bs : List UInt8} (h : Byt w B a n bs) (m : Nat) (hm : m ≤ n) : Byt w B a m (bs.take m) := by
  refine ⟨by rw [List.length_take, h.1]; omega, ?_⟩
  rcases Nat.eq_zero_or_pos m with h0 | h0
  · exact .inl h0
  · obtain ⟨b, off, e, hb, hc⟩ := h.at_ (i := 0) (by omega)
    refine .inr ⟨b, off, e, hb, fun i hi => ?_⟩
    rw [hc i (by omega)]
    congr 3
    rw [List.getD_eq_getElem?_getD, List.getD_eq_getElem?_getD, List.getElem?_take, if_pos hi]
theorem cell_heap {w W : World} (e : W.heap = w.heap) (p : Addr) : W.cell? p = w.cell? p := by unfold World.cell?; rw [e]
theorem Byt.heap {w W : World} {B : Nat} {a : Option Addr} {n : Nat} {bs : List UInt8} (h : Byt w B a n bs) (e : W.heap = w.heap) : Byt W B a n bs := h.keep fun b o _ => cell_heap e _
/-- WHAT THE WALK IS TOLD OF A SLICE OF INTEGERS THAT CAME IN (the guide's shell). -/
def IsRow (k : IntKind) (w : World) (a : Option Addr) (len cap : Nat) (zs : List Int) : Prop :=
  (a = none ∧ len = 0 ∧ cap = 0 ∧ zs = []) ∨
  ∃ x, a = some x ∧ len ≤ cap ∧ cap ≤ maxLen ∧ zs.length = cap ∧ (∀ i, i < zs.length → w.cell? (x.add i) = some (.int k (zs.getD i 0))) ∧ ∀ n ∈ zs, (Lit.int k n).wf = true
theorem IsRow.byt {w : World} {a : Option Addr} {len cap : Nat} {zs : List Int} (h : IsRow .u8 w a len cap zs) :
    ∃ bs, Byt w w.heap.size a len bs ∧ len ≤ cap ∧ cap ≤ 9223372036854775807 := by
  rcases h with ⟨rfl, rfl, rfl, rfl⟩ | ⟨x, rfl, hl, hm, hz, hc, hw⟩
  · exact ⟨[], Byt.nil, Nat.le_refl _, by omega⟩
  · refine ⟨(zs.take len).map fun n => UInt8.ofNat n.toNat, ⟨by rw [List.length_map, List.length_take]; omega, ?_⟩, hl, by unfold maxLen at hm; omega⟩
    rcases Nat.eq_zero_or_pos len with h0 | h0
    · exact .inl h0
    · obtain ⟨b, off, spot⟩ := x
      have hc0 := hc 0 (by omega)
      have hspot : spot = none := by simpa [Addr.add] using World.cell?_spot hc0
      subst hspot
      have hlt := lt_of_cell hc0
      refine .inr ⟨b, off, rfl, by simpa [Addr.add] using hlt, fun i hi => ?_⟩
      have := hc i (by omega)
      rw [add_plain] at this
      rw [this]
      have hb := bounds_u8 (hw (zs.getD i 0) (by rw [getD_eq (by omega)]; exact List.getElem_mem _))
      have e : ((zs.take len).map fun n => UInt8.ofNat n.toNat).getD i 0 = UInt8.ofNat (zs.getD i 0).toNat := by
        rw [getD_eq (by rw [List.length_map, List.length_take]; omega), getD_eq (by omega)]
        simp
      rw [e, toNat_ofNat (by omega), Int.toNat_of_nonneg hb.1]
end Go.Proofs.Ytkmikpmbnfcbpaa
