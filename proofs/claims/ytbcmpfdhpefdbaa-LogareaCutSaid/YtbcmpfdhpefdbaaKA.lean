/- The words for memory that the walks use: a slice that reads as a list of cells whose blocks lie in a footprint; frames; appends onto a row of the call's own. The plain functions that the program and its reference both compute: primitive encodings. Rows of bytes of the call's own, and the append onto them, at this translation's types. -/
import Derived.Below
import Derived.Laws.OwnMore
import Derived.Deep.AppendLies
import Derived.Deep.Draws
import Derived.Maps.AppendAt
import Derived.RegionTactic
import Derived.OwnWalk
import GoSem.Core.Value
import Derived.Test.YtbcmpfdhpefdbaaProg
import Derived.WalkKit
import Derived.WalkSpells
import Derived.WalkLawsBesides
import Derived.KernelRfl
set_option linter.unusedVariables false
set_option linter.unusedSimpArgs false
namespace Go.Proofs.Ytbcmpfdhpefdbaa
open Go.RowKit

theorem block_of_add (a : Addr) (n : Nat) : (a.add n).block = a.block := by unfold Addr.add; split <;> rfl
theorem add_of_add (a : Addr) (i j : Nat) : (a.add i).add j = a.add (i + j) := by
  unfold Addr.add
  by_cases hi : i = 0 <;> by_cases hj : j = 0 <;> simp [hi, hj, Nat.add_assoc]
theorem add_zero' (a : Addr) : a.add 0 = a := by simp [Addr.add]

/-- The slice '.slice A n c' reads as the cells xs (n elements of 'size' cells); its block lies in the footprint F. -/
def Rd (w : World) (F : Nat → Prop) (size : Nat) (A : Option Addr) (n : Nat) (xs : List Value) : Prop :=
  xs.length = n * size ∧ (0 < n → ∃ b o, A = some ⟨b, o, none⟩ ∧ F b ∧ ∀ j u, xs[j]? = some u → w.cell? ⟨b, o + j, none⟩ = some u)

/-- Blocks in F are as they were. -/
def Kp (F : Nat → Prop) (w w' : World) : Prop := ∀ k, F k → w'.heap[k]? = w.heap[k]?

section
variable {w w' w'' : World} {F G : Nat → Prop} {size n : Nat} {A : Option Addr} {xs : List Value}
theorem Kp.refl (F : Nat → Prop) (w : World) : Kp F w w := fun _ _ => rfl
theorem Kp.trans (h : Kp F w w') (k : Kp F w' w'') : Kp F w w'' := fun i hi => (k i hi).trans (h i hi)
theorem Kp.mono (h : Kp F w w') (hg : ∀ k, G k → F k) : Kp G w w' := fun i hi => h i (hg i hi)
theorem Kp.of_below {B : Nat} (h : Below B w w') (hF : ∀ k, F k → k < B) : Kp F w w' := fun k hk => h.block k (hF k hk)
theorem Kp.of_grown {row : Option Nat} (h : w.grownBy w' row) (hF : ∀ k, F k → k < w.heap.size ∧ some k ≠ row) : Kp F w w' := fun k hk => h.block k (hF k hk).1 (hF k hk).2
theorem Rd.none_ : Rd w F size A 0 [] := ⟨by simp, fun h => absurd h (by omega)⟩
theorem Rd.keep (h : Rd w F size A n xs) (hk : Kp F w w') : Rd w' F size A n xs :=
  ⟨h.1, fun hn => by
    obtain ⟨b, o, e, hb, hc⟩ := h.2 hn
    exact ⟨b, o, e, hb, fun j u hu => (World.cell?_of_block (hk _ hb)).trans (hc j u hu)⟩⟩
theorem Rd.more (h : Rd w F size A n xs) (hB : ∀ k, F k → G k) : Rd w G size A n xs :=
  ⟨h.1, fun hn => by
    obtain ⟨b, o, e, hb, hc⟩ := h.2 hn
    exact ⟨b, o, e, hB _ hb, hc⟩⟩
/-- The address behind 's[k:]'. -/
def cutA (A : Option Addr) (cap k size : Nat) : Option Addr := if cap = k then A else A.map (·.add (k * size))
theorem Rd.cut (h : Rd w F size A n xs) {k cap : Nat} (hk : k ≤ n) (hc : n ≤ cap) :
    Rd w F size (cutA A cap k size) (n - k) (xs.drop (k * size)) := by
  refine ⟨by rw [List.length_drop, h.1, Nat.sub_mul], fun hn => ?_⟩
  obtain ⟨b, o, rfl, hb, hcell⟩ := h.2 (by omega)
  unfold cutA
  rw [if_neg (by omega)]
  refine ⟨b, o + k * size, ?_, hb, fun j u hu => ?_⟩
  · simp only [Option.map_some, Addr.add]
    by_cases h0 : k * size = 0
    · simp [h0]
    · simp [h0]
  · rw [Nat.add_assoc]
    exact hcell _ u (by rw [← hu, List.getElem?_drop])
theorem Rd.take_ (h : Rd w F size A n xs) {k : Nat} (hk : k ≤ n) : Rd w F size A k (xs.take (k * size)) := by
  refine ⟨by rw [List.length_take, h.1]; exact Nat.min_eq_left (Nat.mul_le_mul_right _ hk), fun hn => ?_⟩
  obtain ⟨b, o, rfl, hb, hcell⟩ := h.2 (by omega)
  refine ⟨b, o, rfl, hb, fun j u hu => hcell _ u ?_⟩
  rw [List.getElem?_take] at hu
  split at hu
  · exact hu
  · cases hu
theorem Rd.of_own {base : Nat} {e : TypeId} {c : Nat} (h : w.ownsRow base e size (.slice A n c) n xs) : Rd w (fun k => k < w.heap.size ∧ base ≤ k) size A n xs := by
  refine ⟨h.1, fun hn => ?_⟩
  obtain ⟨g, cap, hv, hb, hlt⟩ := h.form hn
  have hA : A = some ⟨g, 0, none⟩ := by injection hv
  subst hA
  refine ⟨_, _, rfl, ⟨hlt, hb⟩, fun j u hu => ?_⟩
  have := h.cells (g := g) rfl j u hu
  rwa [show (⟨g, 0, none⟩ : Addr).add j = ⟨g, 0 + j, none⟩ by unfold Addr.add; split <;> simp_all] at this
theorem own_slice {base : Nat} {e : TypeId} {v : Value} (h : w.ownsRow base e size v n xs) : ∃ A c, v = .slice A n c ∧ n ≤ c ∧ c ≤ maxLen := by
  rcases h.2 with ⟨rfl, rfl⟩ | ⟨g, cap, cur, rfl, _, _, h1, h2, _⟩
  · exact ⟨_, _, rfl, Nat.le_refl _, Nat.zero_le _⟩
  · exact ⟨_, _, rfl, h1, h2⟩
theorem addr_add (b o j : Nat) : (⟨b, o, none⟩ : Addr).add j = ⟨b, o + j, none⟩ := by unfold Addr.add; split <;> simp_all
end

/-- Block g is just the cells cs of element type t, none frozen. -/
def Blk (w : World) (g : Nat) (t : TypeId) (cs : Array Value) : Prop := w.heap[g]? = some (.cells cs t (0, 0))

section
variable {w w' : World} {g : Nat} {t : TypeId} {cs : Array Value}
theorem Blk.lt (h : Blk w g t cs) : g < w.heap.size := by
  rcases Nat.lt_or_ge g w.heap.size with hlt | hge
  · exact hlt
  · unfold Blk at h; rw [Array.getElem?_eq_none hge] at h; cases h
theorem Blk.cell (h : Blk w g t cs) (i : Nat) : w.cell? ⟨g, i, none⟩ = cs[i]? := cell_of_row w g i cs t (0, 0) h
theorem Blk.frozen (h : Blk w g t cs) (i : Nat) : w.frozen? ⟨g, i, none⟩ = false := by
  unfold Blk at h
  simp [World.frozen?, h]
theorem Blk.new (w : World) (t : TypeId) (cs : Array Value) : Blk (w.alloc (.cells cs t)) w.heap.size t cs := heap_alloc_new w _
theorem Blk.drew (h : Blk w g t cs) : Blk w.drew g t cs := h
theorem Blk.drewN (h : Blk w g t cs) (n : Nat) : Blk (w.drewN n) g t cs := h
theorem Blk.alloc (h : Blk w g t cs) (o : Obj) : Blk (w.alloc o) g t cs := (Below.heap_alloc w o g h.lt).trans h
theorem Blk.set_ (h : Blk w g t cs) (i : Nat) (u : Value) : Blk (w.setCell ⟨g, i, none⟩ u) g t (cs.setIfInBounds i u) := by
  unfold Blk at h ⊢
  simp [World.setCell, Array.getElem?_modify, h]
theorem Blk.far (h : Blk w g t cs) {p : Addr} (hp : g ≠ p.block) (u : Value) : Blk (w.setCell p u) g t cs := (Below.heap_setCell w p u g hp).trans h
theorem Blk.below {B : Nat} (h : Blk w g t cs) (hb : Below B w w') (hg : g < B) : Blk w' g t cs := (hb.block g hg).trans h
theorem Blk.grown {row : Option Nat} (h : Blk w g t cs) (hb : w.grownBy w' row) (hg : some g ≠ row) : Blk w' g t cs := (hb.block g h.lt hg).trans h
theorem Blk.keep {F : Nat → Prop} (h : Blk w g t cs) (hk : Kp F w w') (hg : F g) : Blk w' g t cs := (hk g hg).trans h
end

theorem Blk.set2_0 {w : World} {g : Nat} {t : TypeId} {u v : Value} (h : Blk w g t #[u, v]) (x : Value) : Blk (w.setCell ⟨g, 0, none⟩ x) g t #[x, v] := h.set_ 0 x
theorem Blk.set2_1 {w : World} {g : Nat} {t : TypeId} {u v : Value} (h : Blk w g t #[u, v]) (x : Value) : Blk (w.setCell ⟨g, 1, none⟩ x) g t #[u, x] := h.set_ 1 x

theorem only_refl (w : World) (row : Option Nat) : w.grownBy w row := ⟨rfl, rfl, rfl, Nat.le_refl _, fun _ _ _ => rfl⟩
theorem only_drewN {a w : World} {row : Option Nat} (h : a.grownBy w row) (n : Nat) : a.grownBy (w.drewN n) row := ⟨h.os, h.tape, h.output, h.size, h.block⟩
theorem only_drew {a w : World} {row : Option Nat} (h : a.grownBy w row) : a.grownBy w.drew row := ⟨h.os, h.tape, h.output, h.size, h.block⟩
theorem only_alloc {a w : World} {row : Option Nat} (h : a.grownBy w row) (o : Obj) : a.grownBy (w.alloc o) row :=
  ⟨h.os, h.tape, h.output, Nat.le_trans h.size (by simp), fun i hi hne => (Below.heap_alloc w o i (Nat.lt_of_lt_of_le hi h.size)).trans (h.block i hi hne)⟩
theorem only_setCell {a w : World} {g : Nat} (h : a.grownBy w (some g)) {p : Addr} (hp : p.block = g ∨ a.heap.size ≤ p.block) (u : Value) : a.grownBy (w.setCell p u) (some g) :=
  ⟨h.os, h.tape, h.output, by simpa [World.setCell] using h.size, fun i hi hne => (Below.heap_setCell w p u i (by
    rintro rfl
    rcases hp with hp | hp
    · exact hne (by rw [hp])
    · omega)).trans (h.block i hi hne)⟩
theorem only_set {a w : World} {g : Nat} (h : a.grownBy w (some g)) (j : Nat) (u : Value) : a.grownBy (w.setCell ⟨g, j, none⟩ u) (some g) := only_setCell h (.inl rfl) u
theorem grown_trans_new {a b c : World} {row : Option Nat} {g : Nat} (h : a.grownBy b row) (k : b.grownBy c (some g)) (hg : a.heap.size ≤ g) : a.grownBy c row :=
  ⟨k.os.trans h.os, k.tape.trans h.tape, k.output.trans h.output, Nat.le_trans h.size k.size, fun i hi hr => (k.block i (Nat.lt_of_lt_of_le hi h.size) (fun e => by injection e; omega)).trans (h.block i hi hr)⟩
theorem only_of_below {a w : World} (h : Below a.heap.size a w) (row : Option Nat) : a.grownBy w row := ⟨h.os, h.tape, h.output, h.size, fun i hi _ => h.block i hi⟩
theorem below_of_only {a w : World} {g B : Nat} (h : a.grownBy w (some g)) (hg : B ≤ g) (hB : B ≤ a.heap.size) : Below B a w :=
  ⟨h.os, h.tape, h.output, h.size, fun i hi => h.block i (by omega) (fun e => by injection e; omega)⟩
theorem below_drewN {B : Nat} {a w : World} (h : Below B a w) (n : Nat) : Below B a (w.drewN n) := ⟨h.os, h.tape, h.output, h.size, h.block⟩

section
variable {P : Program} (w : World)

theorem run_append_of_nil (base : Nat) (t ty e : TypeId) (i : TypeInfo) (size : Nat) (ht : P.underlying t = some (.slice e)) (hi : P.info? e = some i)
    (v : Value) (n : Nat) (xs : List Value) (hown : w.ownsRow base e size v n xs) (c : Nat) : (Builtin.append_ #[t, t] ty #[v, .slice none 0 c]).run P w = .ok v w := by
  rcases hown.2 with ⟨rfl, rfl⟩ | ⟨g, cap, cur, rfl, _, _, hnc, _⟩
  · simp [Builtin.append_, run_underlying ht, sizeOf, typeInfo, hi, Builtin.lenOf, Builtin.firstCells]
  · simp [Builtin.append_, run_underlying ht, sizeOf, typeInfo, hi, Builtin.lenOf, Builtin.firstCells, hnc, storeCells]

theorem run_append_any (base : Nat) (t ty e : TypeId) (i : TypeInfo) (z : Value) (size bytes : Nat) (ht : P.underlying t = some (.slice e)) (hi : P.info? e = some i) (hz : i.zero = some z)
    (hsize : i.size = size) (hby : i.bytes = bytes) (hzs : z.cells.size = size) (hsz : 0 < size)
    (v : Value) (n : Nat) (xs : List Value) (hown : w.ownsRow base e size v n xs)
    (F : Nat → Prop) (A : Option Addr) (m c : Nat) (news : List Value) (hr : Rd w F size A m news) (h1 : ∀ u ∈ news, u.oneCell' = true)
    (h63 : n + m ≤ maxLen) (hbytes : (n + m) * bytes ≤ 140737488355328) (hbase : base ≤ w.heap.size) :
    ∃ v' w', (Builtin.append_ #[t, t] ty #[v, .slice A m c]).run P w = .ok v' w' ∧ w'.ownsRow base e size v' (n + m) (xs ++ news) ∧ w.grownBy w' v.ownBlock ∧
      (v'.ownBlock = v.ownBlock ∨ v'.ownBlock = some w.heap.size) := by
  rcases A with _ | ad
  · have hm : m = 0 := by
      rcases Nat.eq_zero_or_pos m with h0 | h0
      · exact h0
      · obtain ⟨_, _, h, _⟩ := hr.2 h0
        cases h
    subst hm
    have hn : news = [] := List.eq_nil_of_length_eq_zero (by simpa using hr.1)
    subst hn
    exact ⟨v, w, run_append_of_nil w base t ty e i size ht hi v n xs hown c, by simpa using hown, World.grownBy.refl w _, .inl rfl⟩
  · have hcells : ∀ j u, news[j]? = some u → w.cell? (ad.add j) = some u := by
      intro j u hu
      rcases Nat.eq_zero_or_pos m with h0 | h0
      · subst h0
        have hn : news = [] := List.eq_nil_of_length_eq_zero (by simpa using hr.1)
        subst hn
        simp at hu
      · obtain ⟨b, o, h, _, hc⟩ := hr.2 h0
        injection h with h
        subst h
        rw [addr_add]
        exact hc j u hu
    obtain ⟨v', w', hrun, h2, h3, _, h5⟩ := run_append_own_at (P := P) w base t ty e i z size bytes ht hi hz hsize hby hzs hsz v n xs hown ad m c news hr.1 hcells h1 h63 hbytes hbase
    exact ⟨v', w', hrun, h2, h3, h5⟩

theorem wp_append_any {o : Oper} {a : Act} {K : Act → World → Prop} {Q : Exit → Act → World → Prop} (s x : Operand) (t : TypeId)
    (ho : o.op = .call { callee := .builtin .append, args := #[s, x], argTypes := #[t, t] })
    (base : Nat) (e : TypeId) (i : TypeInfo) (z : Value) (size bytes : Nat) (ht : P.underlying t = some (.slice e)) (hi : P.info? e = some i) (hz : i.zero = some z)
    (hsize : i.size = size) (hby : i.bytes = bytes) (hzs : z.cells.size = size) (hsz : 0 < size)
    (v : Value) (n : Nat) (xs : List Value) (hs : a.eval s = v) (hown : w.ownsRow base e size v n xs)
    (F : Nat → Prop) (A : Option Addr) (m c : Nat) (news : List Value) (hx : a.eval x = .slice A m c) (hr : Rd w F size A m news) (h1 : ∀ u ∈ news, u.oneCell' = true)
    (h63 : n + m ≤ maxLen) (hbytes : (n + m) * bytes ≤ 140737488355328) (hbase : base ≤ w.heap.size)
    (h : ∀ v' w', w'.ownsRow base e size v' (n + m) (xs ++ news) → w.grownBy w' v.ownBlock → (v'.ownBlock = v.ownBlock ∨ v'.ownBlock = some w.heap.size) → K (a.put o.dst v') w') : o.wp P a w K Q := by
  obtain ⟨v', w', hrun, h2, h3, h4⟩ := run_append_any (P := P) w base t o.type e i z size bytes ht hi hz hsize hby hzs hsz v n xs hown F A m c news hr h1 h63 hbytes hbase
  unfold Oper.wp execOp
  simp only [ho, resolve, invoke, builtin, Sem.run_bind, Sem.run_pure, Result.andThen_ok, List.map_toArray, List.map_cons, List.map_nil, hs, hx, hrun]
  exact h v' w' h2 h3 h4

theorem wpList_append_any {ops : Array Oper} {rest : List Oper} {o : Oper} {a : Act} {Q : Exit → Act → World → Prop} (hgd : o.guard = none) (s x : Operand) (t : TypeId)
    (ho : o.op = .call { callee := .builtin .append, args := #[s, x], argTypes := #[t, t] })
    (base : Nat) (e : TypeId) (i : TypeInfo) (z : Value) (size bytes : Nat) (ht : P.underlying t = some (.slice e)) (hi : P.info? e = some i) (hz : i.zero = some z)
    (hsize : i.size = size) (hby : i.bytes = bytes) (hzs : z.cells.size = size) (hsz : 0 < size)
    (v : Value) (n : Nat) (xs : List Value) (hs : a.eval s = v) (hown : w.ownsRow base e size v n xs)
    (F : Nat → Prop) (A : Option Addr) (m c : Nat) (news : List Value) (hx : a.eval x = .slice A m c) (hr : Rd w F size A m news) (h1 : ∀ u ∈ news, u.oneCell' = true)
    (h63 : n + m ≤ maxLen) (hbytes : (n + m) * bytes ≤ 140737488355328) (hbase : base ≤ w.heap.size)
    (h : ∀ v' w', w'.ownsRow base e size v' (n + m) (xs ++ news) → w.grownBy w' v.ownBlock → (v'.ownBlock = v.ownBlock ∨ v'.ownBlock = some w.heap.size) → wpList P ops Q rest (a.put o.dst v') w') : wpList P ops Q (o :: rest) a w :=
  wpList_plain hgd fun _ hK => wp_append_any w s x t ho base e i z size bytes ht hi hz hsize hby hzs hsz v n xs hs hown F A m c news hx hr h1 h63 hbytes hbase fun v' w' h2 h3 h4 => hK _ _ (h v' w' h2 h3 h4)

theorem step_append_any {ops : Array Oper} {o : Oper} {a : Act} {K : Act → World → Prop} {Q : Exit → Act → World → Prop} {E : Prop} (hgd : o.guard = none) (s x : Operand) (t : TypeId)
    (ho : o.op = .call { callee := .builtin .append, args := #[s, x], argTypes := #[t, t] })
    (base : Nat) (e : TypeId) (i : TypeInfo) (z : Value) (size bytes : Nat) (ht : P.underlying t = some (.slice e)) (hi : P.info? e = some i) (hz : i.zero = some z)
    (hsize : i.size = size) (hby : i.bytes = bytes) (hzs : z.cells.size = size) (hsz : 0 < size)
    (v : Value) (n : Nat) (xs : List Value) (hs : a.eval s = v) (hown : w.ownsRow base e size v n xs)
    (F : Nat → Prop) (A : Option Addr) (m c : Nat) (news : List Value) (hx : a.eval x = .slice A m c) (hr : Rd w F size A m news) (h1 : ∀ u ∈ news, u.oneCell' = true)
    (h63 : n + m ≤ maxLen) (hbytes : (n + m) * bytes ≤ 140737488355328) (hbase : base ≤ w.heap.size)
    (h : ∀ v' w', w'.ownsRow base e size v' (n + m) (xs ++ news) → w.grownBy w' v.ownBlock → (v'.ownBlock = v.ownBlock ∨ v'.ownBlock = some w.heap.size) → K (a.put o.dst v') w') :
    if Region.wanted o (yielded ops a.tmps) = true then Oper.wp P o a w K Q else E := by
  have hw : Region.wanted o (yielded ops a.tmps) = true := by simp [Region.wanted, hgd]
  rw [if_pos hw]
  exact wp_append_any w s x t ho base e i z size bytes ht hi hz hsize hby hzs hsz v n xs hs hown F A m c news hx hr h1 h63 hbytes hbase h
end

/-! Aggregates in blocks of their own, and in rows: loaded and stored whole. -/
section
variable {P : Program} {ops : Array Oper} {rest : List Oper} {o : Oper} {a : Act} {w : World} {Q : Exit → Act → World → Prop}
def isRow (d : TypeDesc) : Bool := match d with | .struct _ | .array _ _ => true | _ => false

theorem grownBy_setRow {w : World} {g : Nat} {cs : Array Value} : w.grownBy (w.setRow g cs) (some g) :=
  ⟨rfl, rfl, rfl, by simp, fun k _ hk => setRow_other w g k cs (fun e => hk (by rw [e]))⟩

theorem wpList_stBlk (hgd : o.guard = none) (ty : TypeId) (x y : Operand) (ho : o.op = .store ty x y) (g : Nat) (t : TypeId) (old cells : Array Value) (hg : Blk w g t old)
    (hx : a.eval x = .pointer (some ⟨g, 0, none⟩)) (hy : a.eval y = .agg cells) (hi : (P.info? ty).map (·.size) = some cells.size) (hs : old.size = cells.size) (h1 : cells.toList.all (·.oneCell') = true)
    (h : ∀ w', Blk w' g t cells → w.grownBy w' (some g) → wpList P ops Q rest (a.put o.dst undef) w') : wpList P ops Q (o :: rest) a w :=
  wpList_store_row hgd ty x y ho g cells hx hy t old hg hi hs (by rw [← Array.all_toList]; exact h1) (h _ (setRow_heap w g old cells t (0, 0) hg) grownBy_setRow)

theorem wp_stBlk {K : Act → World → Prop} (ty : TypeId) (x y : Operand) (ho : o.op = .store ty x y) (g : Nat) (t : TypeId) (old cells : Array Value) (hg : Blk w g t old)
    (hx : a.eval x = .pointer (some ⟨g, 0, none⟩)) (hy : a.eval y = .agg cells) (hi : (P.info? ty).map (·.size) = some cells.size) (hs : old.size = cells.size) (h1 : cells.toList.all (·.oneCell') = true)
    (h : ∀ w', Blk w' g t cells → w.grownBy w' (some g) → K (a.put o.dst undef) w') : o.wp P a w K Q :=
  wp_store_row ty x y ho g cells hx hy t old hg hi hs (by rw [← Array.all_toList]; exact h1) (h _ (setRow_heap w g old cells t (0, 0) hg) grownBy_setRow)

theorem run_loadVar_at (w : World) (b o : Nat) (ty : TypeId) (cs : List Value) (d : TypeDesc) (hc : ∀ j v, cs[j]? = some v → w.cell? ⟨b, o + j, none⟩ = some v)
    (hu : P.underlying ty = some d) (hd : isRow d = true) (hi : (P.info? ty).map (·.size) = some cs.length) :
    (loadVar ty ⟨b, o, none⟩).run P w = .ok (.agg cs.toArray) w := by
  have hl : (loadCells ⟨b, o, none⟩ cs.length).run P w = .ok cs.toArray w :=
    run_loadCells_list (P := P) w ⟨b, o, none⟩ cs (fun j v hv => by rw [addr_add]; exact hc j v hv)
  cases hq : P.info? ty with
  | none => simp [hq] at hi
  | some i =>
    have hs : i.size = cs.length := by simpa [hq] using hi
    have hagg : (isAgg ty).run P w = .ok true w := by
      unfold isAgg
      rw [Sem.run_bind, run_underlying hu w]
      cases d <;> simp_all [isRow]
    simp [loadVar, Sem.run_bind, hagg, sizeOf, typeInfo, hq, hs, hl]

theorem wp_ldAt {K : Act → World → Prop} (ty : TypeId) (x : Operand) (ho : o.op = .load ty x) (b off : Nat) (cs : List Value) (d : TypeDesc)
    (hx : a.eval x = .pointer (some ⟨b, off, none⟩)) (hc : ∀ j v, cs[j]? = some v → w.cell? ⟨b, off + j, none⟩ = some v)
    (hu : P.underlying ty = some d) (hd : isRow d = true) (hi : (P.info? ty).map (·.size) = some cs.length)
    (h : K (a.put o.dst (.agg cs.toArray)) w) : o.wp P a w K Q := by
  unfold Oper.wp execOp
  simp only [ho, hx, Instr.loadAt, Instr.sureAddr, Sem.run_bind, Sem.run_pure, Result.andThen_ok, run_loadVar_at w b off ty cs d hc hu hd hi]
  exact h
/-- the load of an aggregate at an address whose cells are known -/
theorem wpList_ldAt (hgd : o.guard = none) (ty : TypeId) (x : Operand) (ho : o.op = .load ty x) (b off : Nat) (cs : List Value) (d : TypeDesc)
    (hx : a.eval x = .pointer (some ⟨b, off, none⟩)) (hc : ∀ j v, cs[j]? = some v → w.cell? ⟨b, off + j, none⟩ = some v)
    (hu : P.underlying ty = some d) (hd : isRow d = true) (hi : (P.info? ty).map (·.size) = some cs.length)
    (h : wpList P ops Q rest (a.put o.dst (.agg cs.toArray)) w) : wpList P ops Q (o :: rest) a w :=
  wpList_plain hgd fun _ hK => wp_ldAt ty x ho b off cs d hx hc hu hd hi (hK _ _ h)

theorem Blk.cells {g : Nat} {t : TypeId} {cs : Array Value} (hg : Blk w g t cs) : ∀ j v, cs.toList[j]? = some v → w.cell? ⟨g, 0 + j, none⟩ = some v := fun j v hv => by
  rw [Nat.zero_add, hg.cell]; simpa using hv
theorem wpList_ldBlk (hgd : o.guard = none) (ty : TypeId) (x : Operand) (ho : o.op = .load ty x) (g : Nat) (t : TypeId) (cs : Array Value) (hg : Blk w g t cs) (d : TypeDesc)
    (hx : a.eval x = .pointer (some ⟨g, 0, none⟩)) (hu : P.underlying ty = some d) (hd : isRow d = true) (hi : (P.info? ty).map (·.size) = some cs.size)
    (h : wpList P ops Q rest (a.put o.dst (.agg cs)) w) : wpList P ops Q (o :: rest) a w :=
  wpList_ldAt hgd ty x ho g 0 cs.toList d hx hg.cells hu hd (by simpa using hi) (by simpa using h)

theorem exec_ldBlk {w : World} (ty : TypeId) (x : Operand) (ho : o.op = .load ty x) (g : Nat) (t : TypeId) (cs : Array Value) (hg : Blk w g t cs) (d : TypeDesc)
    (hx : a.eval x = .pointer (some ⟨g, 0, none⟩)) (hu : P.underlying ty = some d) (hd : isRow d = true) (hi : (P.info? ty).map (·.size) = some cs.size) : (execOp a.eval o).run P w = .ok (.value (.agg cs)) w := by
  unfold execOp
  have := run_loadVar_at (P := P) w g 0 ty cs.toList d hg.cells hu hd (by simpa using hi)
  simp only [ho, hx, Instr.loadAt, Instr.sureAddr, Sem.run_bind, Sem.run_pure, Result.andThen_ok, this, Array.toArray_toList]

theorem run_loadVar_blk {g : Nat} {t ty : TypeId} {cs : Array Value} {d : TypeDesc} (hg : Blk w g t cs) (hu : P.underlying ty = some d) (hd : isRow d = true) (hi : (P.info? ty).map (·.size) = some cs.size) :
    (loadVar ty ⟨g, 0, none⟩).run P w = .ok (.agg cs) w := by
  have := run_loadVar_at (P := P) w g 0 ty cs.toList d hg.cells hu hd (by simpa using hi)
  simpa using this
theorem results_c {fn : Func} {p : Tmp} {ty t : TypeId} {g : Nat} {cs : Array Value} {d : TypeDesc} {tmps : Array Value} (h : fn.results = #[.cell p ty]) (hp : tmps.getD p undef = .pointer (some ⟨g, 0, none⟩))
    (hg : Blk w g t cs) (hu : P.underlying ty = some d) (hd : isRow d = true) (hi : (P.info? ty).map (·.size) = some cs.size) : (results fn tmps).run P w = .ok (.agg cs) w := by
  have hp' : tmps[p]?.getD undef = .pointer (some ⟨g, 0, none⟩) := by simpa using hp
  simp [results, h, hp', asAddr, run_loadVar_blk hg hu hd hi]
theorem results_ct {fn : Func} {p u : Tmp} {ty t : TypeId} {g : Nat} {cs : Array Value} {d : TypeDesc} {tmps : Array Value} (h : fn.results = #[.cell p ty, .tmp u]) (hp : tmps.getD p undef = .pointer (some ⟨g, 0, none⟩))
    (hg : Blk w g t cs) (hu : P.underlying ty = some d) (hd : isRow d = true) (hi : (P.info? ty).map (·.size) = some cs.size) : (results fn tmps).run P w = .ok (.tuple #[.agg cs, tmps.getD u undef]) w := by
  have hp' : tmps[p]?.getD undef = .pointer (some ⟨g, 0, none⟩) := by simpa using hp
  simp [results, h, hp', asAddr, run_loadVar_blk hg hu hd hi]
theorem results_ctt {fn : Func} {p u v : Tmp} {ty t : TypeId} {g : Nat} {cs : Array Value} {d : TypeDesc} {tmps : Array Value} (h : fn.results = #[.cell p ty, .tmp u, .tmp v]) (hp : tmps.getD p undef = .pointer (some ⟨g, 0, none⟩))
    (hg : Blk w g t cs) (hu : P.underlying ty = some d) (hd : isRow d = true) (hi : (P.info? ty).map (·.size) = some cs.size) : (results fn tmps).run P w = .ok (.tuple #[.agg cs, tmps.getD u undef, tmps.getD v undef]) w := by
  have hp' : tmps[p]?.getD undef = .pointer (some ⟨g, 0, none⟩) := by simpa using hp
  simp [results, h, hp', asAddr, run_loadVar_blk hg hu hd hi]
end

end Go.Proofs.Ytbcmpfdhpefdbaa

namespace Go.Proofs.Ytbcmpfdhpefdbaa

/-- A natural number's encoding: groups of seven bits, the lowest first. -/
def enc (n : Nat) : List UInt8 := if n < 128 then [UInt8.ofNat n] else UInt8.ofNat (n % 128 + 128) :: enc (n / 128)
termination_by n
decreasing_by omega
theorem enc_small {n : Nat} (h : n < 128) : enc n = [UInt8.ofNat n] := by rw [enc, if_pos h]
theorem enc_big {n : Nat} (h : ¬ n < 128) : enc n = UInt8.ofNat (n % 128 + 128) :: enc (n / 128) := by rw [enc, if_neg h]
theorem enc_len (m : Nat) : ∀ n, n < 128 ^ (m + 1) → (enc n).length ≤ m + 1 := by
  induction m with
  | zero => intro n h; rw [enc_small (by simpa using h)]; simp
  | succ m ih =>
    intro n h
    by_cases hn : n < 128
    · rw [enc_small hn]; simp
    · rw [enc_big hn]
      have := ih (n / 128) (by rw [Nat.div_lt_iff_lt_mul (by omega)]; rw [← Nat.pow_succ]; exact h)
      simp; omega
theorem enc_len10 {n : Nat} (h : n < 18446744073709551616) : (enc n).length ≤ 10 := enc_len 9 n (Nat.lt_of_lt_of_le h (by decide))
theorem enc_ne (n : Nat) : enc n ≠ [] := by
  by_cases h : n < 128
  · rw [enc_small h]; simp
  · rw [enc_big h]; simp

/-- The number that stands for an integer. -/
def zig (n : Int) : Nat := if 0 ≤ n then 2 * n.toNat else 2 * (-n - 1).toNat + 1
theorem zig_lt {n : Int} (h0 : -9223372036854775808 ≤ n) (h1 : n ≤ 9223372036854775807) : zig n < 18446744073709551616 := by
  unfold zig; split <;> omega
/-- The integer that a number stands for. -/
def zag (m : Nat) : Int := if m % 2 = 0 then ((m / 2 : Nat) : Int) else -((m / 2 : Nat) : Int) - 1

/-- Reads a number from group i on, acc being the value of the groups before. -/
def decU : Nat → Nat → List UInt8 → Option (Nat × List UInt8)
  | _, _, [] => none
  | i, acc, c :: rest =>
    if i = 9 ∧ 1 < c.toNat then none
    else if c.toNat < 128 then (if c.toNat = 0 ∧ 0 < i then none else some (acc + c.toNat % 128 * 128 ^ i, rest))
    else decU (i + 1) (acc + c.toNat % 128 * 128 ^ i) rest

/-- A reader: what has not been read; none behind an error. -/
abbrev RS := Option (List UInt8)
def rUint : RS → Nat × RS
  | none => (0, none)
  | some bs => match decU 0 0 bs with
    | none => (0, none)
    | some (n, rest) => (n, some rest)
/-- what is read from group i on -/
def uintFrom (i acc : Nat) : RS → Nat × RS
  | none => (0, none)
  | some bs => match decU i acc bs with
    | none => (0, none)
    | some (n, rest) => (n, some rest)
def rTake (n : Nat) : RS → List UInt8 × RS
  | none => ([], none)
  | some bs => if n ≤ bs.length then (bs.take n, some (bs.drop n)) else ([], none)
def rBytes (st : RS) : List UInt8 × RS := match rUint st with
  | (_, none) => ([], none)
  | (n, some rest) => rTake n (some rest)
def rCount (most : Nat) (st : RS) : Nat × RS := match rUint st with
  | (_, none) => (0, none)
  | (n, some rest) => if n ≤ most then (n, some rest) else (0, none)
def rInt (st : RS) : Int × RS := match rUint st with
  | (_, none) => (0, none)
  | (n, some rest) => (zag n, some rest)
/-- The eight bytes of a block. -/
structure B8 where
  (b0 b1 b2 b3 b4 b5 b6 b7 : UInt8)
  deriving DecidableEq
def B8.list (x : B8) : List UInt8 := [x.b0, x.b1, x.b2, x.b3, x.b4, x.b5, x.b6, x.b7]
def B8.of (l : List UInt8) : B8 := ⟨l[0]?.getD 0, l[1]?.getD 0, l[2]?.getD 0, l[3]?.getD 0, l[4]?.getD 0, l[5]?.getD 0, l[6]?.getD 0, l[7]?.getD 0⟩
def B8.zero : B8 := ⟨0, 0, 0, 0, 0, 0, 0, 0⟩
def rBlock : RS → B8 × RS
  | none => (B8.zero, none)
  | some bs => if 8 ≤ bs.length then (B8.of bs, some (bs.drop 8)) else (B8.zero, none)
def rLeft : RS → Nat
  | none => 0
  | some bs => bs.length
/-- The code of a step that leaves this reader. -/
def rErr : RS → Int
  | none => 5
  | some _ => 0
def rDone : RS → Int
  | some [] => 0
  | _ => 5

theorem decU_len {bs : List UInt8} : ∀ {i acc n rest}, decU i acc bs = some (n, rest) → rest.length < bs.length := by
  induction bs with
  | nil => intro i acc n rest h; simp [decU] at h
  | cons c bs ih =>
    intro i acc n rest h
    unfold decU at h
    split at h
    · cases h
    · split at h
      · split at h
        · cases h
        · simp only [Option.some.injEq, Prod.mk.injEq] at h; rw [← h.2]; simp
      · have := ih h; simp; omega
theorem decU_bd {bs : List UInt8} : ∀ {i acc n rest}, i ≤ 9 → acc < 128 ^ i → decU i acc bs = some (n, rest) → n < 18446744073709551616 := by
  induction bs with
  | nil => intro i acc n rest _ _ h; simp [decU] at h
  | cons c bs ih =>
    intro i acc n rest hi ha h
    unfold decU at h
    have hc := c.toNat_lt
    split at h
    · cases h
    · rename_i h9
      by_cases hi9 : i = 9
      · subst hi9
        have hc1 : c.toNat ≤ 1 := by omega
        rw [if_pos (by omega)] at h
        split at h
        · cases h
        · simp only [Option.some.injEq, Prod.mk.injEq] at h
          rw [← h.1]
          have e : (128 : Nat) ^ 9 = 9223372036854775808 := by decide
          rw [e] at ha ⊢
          have : c.toNat % 128 = c.toNat := by omega
          rw [this]
          rcases Nat.lt_or_ge c.toNat 1 with h0 | h0
          · have : c.toNat = 0 := by omega
            rw [this]; omega
          · have : c.toNat = 1 := by omega
            rw [this]; omega
      · have hp : acc + c.toNat % 128 * 128 ^ i < 128 ^ (i + 1) := by
          have h1 : c.toNat % 128 * 128 ^ i ≤ 127 * 128 ^ i := Nat.mul_le_mul_right _ (by omega)
          rw [Nat.pow_succ]; omega
        split at h
        · split at h
          · cases h
          · simp only [Option.some.injEq, Prod.mk.injEq] at h
            rw [← h.1]
            have : (128 : Nat) ^ (i + 1) ≤ 128 ^ 9 := Nat.pow_le_pow_right (by decide) (by omega)
            have e : (128 : Nat) ^ 9 = 9223372036854775808 := by decide
            omega
        · exact ih (by omega) hp h
theorem rUint_bd (st : RS) : (rUint st).1 < 18446744073709551616 := by
  unfold rUint
  split
  · decide
  · split
    · decide
    · rename_i h; exact decU_bd (by decide) (by decide) h

/-- One step of the sum's register. -/
def crcPoly : Nat := 14514072000185962306
def crcStep (x : Nat) : Nat := if x % 2 = 1 then (x / 2) ^^^ crcPoly else x / 2
def crcN : Nat → Nat → Nat
  | 0, x => x
  | k + 1, x => crcN k (crcStep x)
def crcUpd (x : Nat) : List UInt8 → Nat
  | [] => x
  | c :: r => crcUpd (crcN 8 (x ^^^ c.toNat)) r
/-- The sum of bytes. -/
def ones64 : Nat := 18446744073709551615
def crcSum (bs : List UInt8) : Nat := ones64 - crcUpd ones64 bs
theorem ones64_lt : ones64 < 18446744073709551616 := by decide
theorem crcSum_lt (bs : List UInt8) : crcSum bs < 18446744073709551616 := by unfold crcSum; have := ones64_lt; omega
theorem xor_lt64 {x y : Nat} (hx : x < 18446744073709551616) (hy : y < 18446744073709551616) : x ^^^ y < 18446744073709551616 := by
  have := Nat.xor_lt_two_pow (n := 64) (x := x) (y := y) (by omega) (by omega)
  omega
theorem crcStep_lt {x : Nat} (h : x < 18446744073709551616) : crcStep x < 18446744073709551616 := by
  unfold crcStep
  split
  · exact xor_lt64 (by omega) (by decide)
  · omega
theorem crcN_lt : ∀ k {x : Nat}, x < 18446744073709551616 → crcN k x < 18446744073709551616
  | 0, _, h => h
  | k + 1, _, h => crcN_lt k (crcStep_lt h)
theorem crcN_succ : ∀ k x, crcN (k + 1) x = crcStep (crcN k x)
  | 0, _ => rfl
  | k + 1, x => crcN_succ k (crcStep x)
theorem crcUpd_lt {x : Nat} (h : x < 18446744073709551616) (bs : List UInt8) : crcUpd x bs < 18446744073709551616 := by
  induction bs generalizing x with
  | nil => exact h
  | cons c r ih => exact ih (crcN_lt 8 (xor_lt64 h (by have := c.toNat_lt; omega)))
theorem crcUpd_append (x : Nat) (a b : List UInt8) : crcUpd x (a ++ b) = crcUpd (crcUpd x a) b := by
  induction a generalizing x with
  | nil => rfl
  | cons c r ih => exact ih _
theorem crcUpd_snoc (x : Nat) (bs : List UInt8) (k : Nat) (c : UInt8) (h : bs[k]? = some c) : crcUpd x (bs.take (k + 1)) = crcN 8 (crcUpd x (bs.take k) ^^^ c.toNat) := by
  rw [List.take_add_one, h, crcUpd_append]; rfl
/-- A number's eight bytes, the most significant one first. -/
def be8b (n q : Nat) : Nat := n / 2 ^ (56 - 8 * q) % 256
def be8 (n : Nat) : List UInt8 := (List.range 8).map fun q => UInt8.ofNat (be8b n q)
def be8To (n q : Nat) : List UInt8 := (List.range q).map fun q => UInt8.ofNat (be8b n q)
theorem be8To_succ (n q : Nat) : be8To n (q + 1) = be8To n q ++ [UInt8.ofNat (be8b n q)] := by simp [be8To, List.range_succ]
theorem be8b_lt (n q : Nat) : be8b n q < 256 := Nat.mod_lt _ (by decide)
theorem be8To_len (n q : Nat) : (be8To n q).length = q := by simp [be8To]
/-- Bytes followed by their sum. -/
def sealB (bs : List UInt8) : List UInt8 := bs ++ be8 (crcSum bs)
theorem sealB_len (bs : List UInt8) : (sealB bs).length = bs.length + 8 := by simp [sealB, be8]

theorem uintFrom_big {j a : Nat} {x : UInt8} {bs : List UInt8} (h : 128 ≤ x.toNat) (hj : j < 9) : uintFrom j a (some (x :: bs)) = uintFrom (j + 1) (a + x.toNat % 128 * 128 ^ j) (some bs) := by
  simp only [uintFrom]
  rw [decU, if_neg (by omega), if_neg (by omega)]
theorem uintFrom_ret {j a : Nat} {x : UInt8} {bs : List UInt8} (h : x.toNat < 128) (hj : j ≤ 9) (h9 : j = 9 → x.toNat ≤ 1) (h0 : x.toNat ≠ 0 ∨ j = 0) :
    uintFrom j a (some (x :: bs)) = (a + x.toNat % 128 * 128 ^ j, some bs) := by
  simp only [uintFrom]
  rw [decU, if_neg (by omega), if_pos h, if_neg (by omega)]
theorem uintFrom_bad {j a : Nat} {x : UInt8} {bs : List UInt8} (h : (j = 9 ∧ 1 < x.toNat) ∨ (x.toNat = 0 ∧ 0 < j)) : uintFrom j a (some (x :: bs)) = (0, none) := by
  simp only [uintFrom]
  rw [decU]
  by_cases h9 : j = 9 ∧ 1 < x.toNat
  · rw [if_pos h9]
  · rw [if_neg h9, if_pos (by omega), if_pos (by omega)]
theorem uintFrom_nil (j a : Nat) : uintFrom j a (some []) = (0, none) := by simp [uintFrom, decU]
theorem uintFrom_zero (st : RS) : uintFrom 0 0 st = rUint st := by cases st <;> rfl

end Go.Proofs.Ytbcmpfdhpefdbaa

namespace Go.Proofs.Ytbcmpfdhpefdbaa
open Go.RowKit

theorem hid {p : Prop} (h : p) : Hid p := h

theorem info_u8 : (Try.prog.info? 5).map (fun i => (i.zero, i.size, i.bytes)) = some (some (.int .u8 0), 1, 1) := by kernel_rfl

def B (x : UInt8) : Value := .int .u8 (x.toNat : Int)
theorem B_one (bs : List UInt8) : ∀ u ∈ bs.map B, u.oneCell' = true := by
  intro u hu; obtain ⟨x, _, rfl⟩ := List.mem_map.1 hu; rfl

/-- v is a slice of bytes of the call's own (blocks from base on) that holds bs. -/
def OwnB (base : Nat) (w : World) (v : Value) (bs : List UInt8) : Prop := w.ownsRow base 5 1 v bs.length (bs.map B)
/-- The slice of bytes '.slice A n c' reads as bs; its block lies in F. -/
def RdB (w : World) (F : Nat → Prop) (A : Option Addr) (n : Nat) (bs : List UInt8) : Prop := n = bs.length ∧ Rd w F 1 A n (bs.map B)

/-- returns a slice of its own that holds bs -/
def RetB (base : Nat) (w : World) (bs : List UInt8) (e : Ending) (w' : World) : Prop :=
  ∃ v, e = .returned v ∧ OwnB base w' v bs ∧ Below base w w'

section
variable {w w' : World} {base : Nat} {v : Value} {bs : List UInt8}
theorem OwnB.nil_ : OwnB base w (.slice none 0 0) [] := World.ownsRow_nil w base _ 1
theorem OwnB.made (hb : base ≤ w.heap.size) : OwnB base (w.alloc (.cells #[] 5)) (.slice (some ⟨w.heap.size, 0, none⟩) 0 0) [] :=
  World.ownsRow_made w #[] 0 hb (by decide) rfl
theorem OwnB.made_drew (hb : base ≤ w.heap.size) : OwnB base (w.alloc (.cells #[] 5)).drew (.slice (some ⟨w.heap.size, 0, none⟩) 0 0) [] := OwnB.made hb
theorem OwnB.drew (h : OwnB base w v bs) : OwnB base w.drew v bs := h
theorem OwnB.drewN (h : OwnB base w v bs) (m : Nat) : OwnB base (w.drewN m) v bs := h
theorem OwnB.form (h : OwnB base w v bs) : ∃ A c, v = .slice A bs.length c ∧ bs.length ≤ c ∧ c ≤ maxLen := own_slice h
theorem OwnB.rd {A : Option Addr} {n c : Nat} (h : OwnB base w (.slice A n c) bs) : RdB w (fun k => k < w.heap.size ∧ base ≤ k) A n bs := by
  obtain ⟨A', c', hv, _, _⟩ := h.form
  injection hv with h1 h2 h3
  subst h1; subst h2; subst h3
  exact ⟨rfl, Rd.of_own h⟩
theorem OwnB.lt (h : OwnB base w v bs) : ∀ k, v.ownBlock = some k → base ≤ k ∧ k < w.heap.size := World.ownsRow.lt h
theorem OwnB.grown {row : Option Nat} (h : OwnB base w v bs) (hg : w.grownBy w' row) (hne : v.ownBlock = none ∨ v.ownBlock ≠ row) : OwnB base w' v bs := World.ownsRow.kept h hg hne
theorem OwnB.lower {base' : Nat} (h : OwnB base' w v bs) (hb : base ≤ base') : OwnB base w v bs := by
  refine ⟨h.1, ?_⟩
  rcases h.2 with h1 | ⟨g, cap, cur, e, hg, r⟩
  · exact .inl h1
  · exact .inr ⟨g, cap, cur, e, Nat.le_trans hb hg, r⟩
theorem OwnB.alloc (h : OwnB base w v bs) (o : Obj) : OwnB base (w.alloc o) v bs := World.ownsRow.alloc h o
theorem RdB.drew {F : Nat → Prop} {A : Option Addr} {n : Nat} (h : RdB w F A n bs) : RdB w.drew F A n bs := h
theorem RdB.drewN {F : Nat → Prop} {A : Option Addr} {n : Nat} (h : RdB w F A n bs) (m : Nat) : RdB (w.drewN m) F A n bs := h
theorem RdB.keep {F : Nat → Prop} {A : Option Addr} {n : Nat} (h : RdB w F A n bs) (hk : Kp F w w') : RdB w' F A n bs := ⟨h.1, h.2.keep hk⟩
end

theorem rdB_one (w : World) (x : Nat) (hx : x < 256) : RdB (w.alloc (.cells #[.int .u8 (x : Int)] 5)) (fun k => k = w.heap.size) (some ⟨w.heap.size, 0, none⟩) 1 [UInt8.ofNat x] :=
  ⟨rfl, by simp, fun _ => ⟨_, _, rfl, rfl, fun j u hu => by
    have := cell_one_new w (.int .u8 (x : Int)) 5 j u (by
      have e : B (UInt8.ofNat x) = .int .u8 (x : Int) := by simp [B, Nat.mod_eq_of_lt hx]
      simpa [e] using hu)
    rwa [addr_add] at this⟩⟩

/-- append(s, x...) at bytes: s is a row of the call's own. -/
theorem wpList_apB {ops : Array Oper} {rest : List Oper} {o : Oper} {a : Act} {w : World} {Q : Exit → Act → World → Prop} (hgd : o.guard = none) (s x : Operand)
    (ho : o.op = .call { callee := .builtin .append, args := #[s, x], argTypes := #[25, 25] })
    (base : Nat) (v : Value) (bs : List UInt8) (hs : a.eval s = v) (hown : OwnB base w v bs)
    (F : Nat → Prop) (A : Option Addr) (m c : Nat) (ys : List UInt8) (hx : a.eval x = .slice A m c) (hr : RdB w F A m ys)
    (hlen : bs.length + ys.length ≤ 1099511627776) (hbase : base ≤ w.heap.size)
    (h : ∀ v' w', OwnB base w' v' (bs ++ ys) → w.grownBy w' v.ownBlock → (v'.ownBlock = v.ownBlock ∨ v'.ownBlock = some w.heap.size) → wpList Try.prog ops Q rest (a.put o.dst v') w') :
    wpList Try.prog ops Q (o :: rest) a w := by
  obtain ⟨i0, hi, hz0, hz1, hz2⟩ := info_parts info_u8
  obtain ⟨rfl, hr⟩ := hr
  refine wpList_append_any w hgd s x 25 ho base 5 i0 _ 1 1 Try.underlying25 hi hz0 hz1 hz2 rfl (by decide) v bs.length _ hs hown F A ys.length c _ hx hr (B_one ys)
    (by simp only [maxLen]; omega) (by omega) hbase ?_
  intro v' w' h1 h2 h3
  refine h v' w' ?_ h2 h3
  unfold OwnB
  rw [List.length_append, List.map_append]
  exact h1

/-- the same as one step of a region that draws its order -/
theorem step_apB {ops : Array Oper} {o : Oper} {a : Act} {w : World} {K : Act → World → Prop} {Q : Exit → Act → World → Prop} {E : Prop} (hgd : o.guard = none) (s x : Operand)
    (ho : o.op = .call { callee := .builtin .append, args := #[s, x], argTypes := #[25, 25] })
    (base : Nat) (v : Value) (bs : List UInt8) (hs : a.eval s = v) (hown : OwnB base w v bs)
    (F : Nat → Prop) (A : Option Addr) (m c : Nat) (ys : List UInt8) (hx : a.eval x = .slice A m c) (hr : RdB w F A m ys)
    (hlen : bs.length + ys.length ≤ 1099511627776) (hbase : base ≤ w.heap.size)
    (h : ∀ v' w', OwnB base w' v' (bs ++ ys) → w.grownBy w' v.ownBlock → (v'.ownBlock = v.ownBlock ∨ v'.ownBlock = some w.heap.size) → K (a.put o.dst v') w') :
    if Region.wanted o (yielded ops a.tmps) = true then Oper.wp Try.prog o a w K Q else E := by
  obtain ⟨i0, hi, hz0, hz1, hz2⟩ := info_parts info_u8
  obtain ⟨rfl, hr⟩ := hr
  refine step_append_any w hgd s x 25 ho base 5 i0 _ 1 1 Try.underlying25 hi hz0 hz1 hz2 rfl (by decide) v bs.length _ hs hown F A ys.length c _ hx hr (B_one ys)
    (by simp only [maxLen]; omega) (by omega) hbase ?_
  intro v' w' h1 h2 h3
  refine h v' w' ?_ h2 h3
  unfold OwnB
  rw [List.length_append, List.map_append]
  exact h1

/-- A goal put by, so that the walk stops there. -/
def Mk (p : Prop) : Prop := p
theorem mk_stop {p : Prop} (h : Mk p) : p := h

/-- append(s, x) at bytes: s is a row of the call's own. -/
theorem wpList_apB1 {ops : Array Oper} {rest : List Oper} {o : Oper} {a : Act} {w : World} {Q : Exit → Act → World → Prop} {X : Int} (hgd : o.guard = none) (s x : Operand)
    (ho : o.op = .call { callee := .builtin .append, args := #[s, x], argTypes := #[25, 25] })
    (base : Nat) (v : Value) (bs : List UInt8) (hs : a.eval s = v) (hown : OwnB base w v bs) (c : Nat)
    (hx : a.eval x = .slice (some ⟨w.heap.size, 0, none⟩) 1 c) (b : Nat) (hb : b < 256) (hX : X = (b : Int))
    (hlen : bs.length + 1 ≤ 1099511627776) (hbase : base ≤ w.heap.size)
    (h : ∀ v' w', OwnB base w' v' (bs ++ [UInt8.ofNat b]) → w.grownBy w' v.ownBlock → (v'.ownBlock = v.ownBlock ∨ v'.ownBlock = some (w.heap.size + 1)) → wpList Try.prog ops Q rest (a.put o.dst v') w') :
    wpList Try.prog ops Q (o :: rest) a (w.alloc (.cells #[.int .u8 X] 5)) := by
  subst hX
  refine wpList_apB hgd s x ho base v bs hs (hown.alloc _) _ _ 1 c [UInt8.ofNat b] hx (rdB_one w b hb) (by simpa using hlen) (by simp; omega) ?_
  intro v' w' h1 h2 h3
  exact h v' w' h1 ((World.grownBy_alloc w _ _).trans h2) (by simpa using h3)

end Go.Proofs.Ytbcmpfdhpefdbaa
