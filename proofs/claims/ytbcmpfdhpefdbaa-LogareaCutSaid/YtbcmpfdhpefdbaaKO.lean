/- Rows of PieceWrites and of Moves of the call's own. What holds between two reads of parse. The last region of a reading of a record. -/
import Derived.Test.YtbcmpfdhpefdbaaKF
import Derived.Deep.MidRow
import Derived.Test.YtbcmpfdhpefdbaaKM
import Derived.Test.YtbcmpfdhpefdbaaKB
import Derived.Test.YtbcmpfdhpefdbaaKI
import Derived.Test.YtbcmpfdhpefdbaaKG
import Derived.Test.YtbcmpfdhpefdbaaKN
set_option linter.unusedVariables false
set_option linter.unusedSimpArgs false
namespace Go.Proofs.Ytbcmpfdhpefdbaa
open Go.RowKit

def zPWc : Array Value := #[.int .i64 0, .int .i64 0, .int .u64 0, .int .u8 0, .int .u8 0, .int .u8 0, .int .u8 0, .int .u8 0, .int .u8 0, .int .u8 0, .int .u8 0]
def zMVc : Array Value := #[.int .i64 0, .int .i64 0, .int .i64 0, .int .i64 0]
theorem info_pwz : (Try.prog.info? 77).map (fun i => (i.zero, i.size, i.bytes)) = some (some (.agg zPWc), 11, 32) := by kernel_rfl
theorem info_mvz : (Try.prog.info? 82).map (fun i => (i.zero, i.size, i.bytes)) = some (some (.agg zMVc), 4, 32) := by kernel_rfl

def OwnW (base : Nat) (w : World) (v : Value) (ws : List PW) : Prop := w.ownsRow base 77 11 v ws.length (ws.flatMap PW.cells)
def OwnM (base : Nat) (w : World) (v : Value) (ms : List MV) : Prop := w.ownsRow base 82 4 v ms.length (ms.flatMap MV.cells)

/-- a fresh block that holds one element -/
theorem rd_blk {w : World} {g : Nat} {t : TypeId} {cs : List Value} (h : Blk w g t cs.toArray) : Rd w (fun k => k = g) cs.length (some ⟨g, 0, none⟩) 1 cs :=
  ⟨by simp, fun _ => ⟨_, _, rfl, rfl, fun j u hu => by rw [Nat.zero_add, h.cell]; simpa using hu⟩⟩

/-- append(out, p): the element has been laid into a block of its own first -/
theorem wpList_apW {ops : Array Oper} {rest : List Oper} {o : Oper} {a : Act} {w : World} {Q : Exit → Act → World → Prop} (hgd : o.guard = none) (s x : Operand)
    (ho : o.op = .call { callee := .builtin .append, args := #[s, x], argTypes := #[23, 23] })
    (base : Nat) (v : Value) (ws : List PW) (hs : a.eval s = v) (hown : OwnW base w v ws) (p : PW) (c' : Nat) (hx : a.eval x = .slice (some ⟨w.heap.size, 0, none⟩) 1 c')
    (hlen : ws.length + 1 ≤ 1000000000) (hbase : base ≤ w.heap.size)
    (h : ∀ v' w', OwnW base w' v' (ws ++ [p]) → w.grownBy w' v.ownBlock → (v'.ownBlock = v.ownBlock ∨ v'.ownBlock = some (w.heap.size + 1)) → wpList Try.prog ops Q rest (a.put o.dst v') w') :
    wpList Try.prog ops Q (o :: rest) a (w.alloc (.cells p.cells.toArray 77)) := by
  obtain ⟨i0, hi, hz0, hz1, hz2⟩ := info_parts info_pwz
  refine wpList_append_any (w.alloc (.cells p.cells.toArray 77)) hgd s x 23 ho base 77 i0 _ 11 32 Try.underlying23 hi hz0 hz1 hz2 rfl (by decide) v ws.length _ hs (World.ownsRow.alloc hown _) _ _ 1 c' p.cells hx (rd_blk (Blk.new _ _ _)) (by intro u hu; simp [PW.cells, B] at hu; rcases hu with rfl | rfl | rfl | rfl | rfl | rfl | rfl | rfl | rfl | rfl | rfl <;> rfl)
    (by simp only [maxLen]; omega) (by omega) (by simp; omega) ?_
  intro v' w' e1 e2 e3
  refine h v' w' ?_ ((World.grownBy_alloc w _ _).trans e2) (by simpa using e3)
  unfold OwnW
  rw [List.length_append, List.flatMap_append]
  simpa using e1

/-- append(out, p): the element has been laid into a block of its own first -/
theorem wpList_apM {ops : Array Oper} {rest : List Oper} {o : Oper} {a : Act} {w : World} {Q : Exit → Act → World → Prop} (hgd : o.guard = none) (s x : Operand)
    (ho : o.op = .call { callee := .builtin .append, args := #[s, x], argTypes := #[24, 24] })
    (base : Nat) (v : Value) (ws : List MV) (hs : a.eval s = v) (hown : OwnM base w v ws) (p : MV) (c' : Nat) (hx : a.eval x = .slice (some ⟨w.heap.size, 0, none⟩) 1 c')
    (hlen : ws.length + 1 ≤ 1000000000) (hbase : base ≤ w.heap.size)
    (h : ∀ v' w', OwnM base w' v' (ws ++ [p]) → w.grownBy w' v.ownBlock → (v'.ownBlock = v.ownBlock ∨ v'.ownBlock = some (w.heap.size + 1)) → wpList Try.prog ops Q rest (a.put o.dst v') w') :
    wpList Try.prog ops Q (o :: rest) a (w.alloc (.cells p.cells.toArray 82)) := by
  obtain ⟨i0, hi, hz0, hz1, hz2⟩ := info_parts info_mvz
  refine wpList_append_any (w.alloc (.cells p.cells.toArray 82)) hgd s x 24 ho base 82 i0 _ 4 32 Try.underlying24 hi hz0 hz1 hz2 rfl (by decide) v ws.length _ hs (World.ownsRow.alloc hown _) _ _ 1 c' p.cells hx (rd_blk (Blk.new _ _ _)) (by intro u hu; simp [MV.cells] at hu; rcases hu with rfl | rfl | rfl | rfl <;> rfl)
    (by simp only [maxLen]; omega) (by omega) (by simp; omega) ?_
  intro v' w' e1 e2 e3
  refine h v' w' ?_ ((World.grownBy_alloc w _ _).trans e2) (by simpa using e3)
  unfold OwnM
  rw [List.length_append, List.flatMap_append]
  simpa using e1

/-- eight bytes are stored from cell 3 on -/
theorem Blk.set8 {w : World} {g : Nat} {t : TypeId} {a b c d0 d1 d2 d3 d4 d5 d6 d7 : Value} (h : Blk w g t #[a, b, c, d0, d1, d2, d3, d4, d5, d6, d7]) (e0 e1 e2 e3 e4 e5 e6 e7 : Value) :
    Blk (w.setCells g 3 [e0, e1, e2, e3, e4, e5, e6, e7]) g t #[a, b, c, e0, e1, e2, e3, e4, e5, e6, e7] := by
  simp only [World.setCells]
  have h0 : Blk _ g t #[a, b, c, e0, d1, d2, d3, d4, d5, d6, d7] := h.set_ 3 e0
  have h1 : Blk _ g t #[a, b, c, e0, e1, d2, d3, d4, d5, d6, d7] := h0.set_ 4 e1
  have h2 : Blk _ g t #[a, b, c, e0, e1, e2, d3, d4, d5, d6, d7] := h1.set_ 5 e2
  have h3 : Blk _ g t #[a, b, c, e0, e1, e2, e3, d4, d5, d6, d7] := h2.set_ 6 e3
  have h4 : Blk _ g t #[a, b, c, e0, e1, e2, e3, e4, d5, d6, d7] := h3.set_ 7 e4
  have h5 : Blk _ g t #[a, b, c, e0, e1, e2, e3, e4, e5, d6, d7] := h4.set_ 8 e5
  have h6 : Blk _ g t #[a, b, c, e0, e1, e2, e3, e4, e5, e6, d7] := h5.set_ 9 e6
  have h7 : Blk _ g t #[a, b, c, e0, e1, e2, e3, e4, e5, e6, e7] := h6.set_ 10 e7
  exact h7

end Go.Proofs.Ytbcmpfdhpefdbaa

namespace Go.Proofs.Ytbcmpfdhpefdbaa
open Go.RowKit
attribute [local irreducible] Go.Calls

def zRec : Array Value := #[.int .u64 0, .int .u64 0, .slice none 0 0, .slice none 0 0, .slice none 0 0]

/-- between two reads: the reader, the record's box, the result's box -/
structure PIn (TR : TypeId) (base l g p q : Nat) (w0 : World) (st : RS) (cs : Array Value) (w : World) : Prop where
  (rdr : Rdr TR w (fun k => l ≤ k ∧ k < g) g st) (box : Blk w p 27 cs)
  (res : Blk w q 27 #[.int .u64 0, .int .u64 0, .slice none 0 0, .slice none 0 0, .slice none 0 0]) (bel : Below base w0 w)
  (hb : base ≤ q) (hq : q < l) (hl : l ≤ g) (hp : g < p)
theorem Rdr.moreF {T : TypeId} {w : World} {F G : Nat → Prop} {g : Nat} {st : RS} (h : Rdr T w F g st) (hk : ∀ k, F k → G k) : Rdr T w G g st := by
  obtain ⟨A, n, c, b, hb, h1, h2, h3⟩ := h
  refine ⟨A, n, c, b, hb, h1, h2, ?_⟩
  cases st with
  | none => exact h3
  | some bs => exact ⟨h3.1, h3.2.1, h3.2.2.more hk⟩
theorem PIn.gs {TR : TypeId} {base l g p q : Nat} {w0 w : World} {st : RS} {cs : Array Value} (h : PIn TR base l g p q w0 st cs w) : p < w.heap.size := h.box.lt
theorem PIn.step {TR : TypeId} {base l g p q : Nat} {w0 w w' : World} {st st' : RS} {cs : Array Value} (h : PIn TR base l g p q w0 st cs w) (hr : Rdr TR w' (fun k => l ≤ k ∧ k < g) g st') (hg : w.grownBy w' (some g)) : PIn TR base l g p q w0 st' cs w' :=
  { h with
    rdr := hr
    box := h.box.grown hg (by intro e; injection e; have := h.hp; omega)
    res := h.res.grown hg (by intro e; injection e; have := h.hq; have := h.hl; omega)
    bel := h.bel.grown hg (by have := h.box.lt; have := h.hb; have := h.hq; have := h.hl; have := h.hp; omega) (by intro k hk; injection hk with hk; have := h.hb; have := h.hq; have := h.hl; omega) }
theorem Rdr.kept' {T : TypeId} {w w' : World} {F : Nat → Prop} {g : Nat} {st : RS} (h : Rdr T w F g st) (hg : w'.heap[g]? = w.heap[g]?) (hk : Kp F w w') : Rdr T w' F g st := by
  obtain ⟨A, n, c, b, hb, h1, h2, h3⟩ := h
  refine ⟨A, n, c, b, hg.trans hb, h1, h2, ?_⟩
  cases st with
  | none => exact h3
  | some bs => exact ⟨h3.1, h3.2.keep hk⟩
theorem PIn.store {TR : TypeId} {base l g p q : Nat} {w0 w : World} {st : RS} {cs : Array Value} (h : PIn TR base l g p q w0 st cs w) (i : Nat) (v : Value) : PIn TR base l g p q w0 st (cs.setIfInBounds i v) (w.setCell ⟨p, i, none⟩ v) :=
  { h with
    rdr := h.rdr.kept' (Below.heap_setCell _ _ _ _ (by have := h.hp; simp only; omega)) (fun k hk => Below.heap_setCell _ _ _ _ (by have := h.hp; simp only; omega))
    box := h.box.set_ i v
    res := h.res.far (by have := h.hp; have := h.hq; have := h.hl; simp only; omega) v
    bel := h.bel.setCell (by have := h.hp; have := h.hb; have := h.hq; have := h.hl; simp only; omega) v }

/-- a step that turns one block beyond the record's box, or none -/
theorem PIn.other {TR : TypeId} {base l g p q : Nat} {w0 w w' : World} {st : RS} {cs : Array Value} (h : PIn TR base l g p q w0 st cs w) {row : Option Nat} (hg : w.grownBy w' row) (hb : ∀ b, row = some b → p < b) : PIn TR base l g p q w0 st cs w' :=
  have hne : ∀ k, k ≤ p → some k ≠ row := fun k hk e => by have := hb k e.symm; omega
  have hps := h.gs
  have h1 := h.hp
  have h2 := h.hl
  have h3 := h.hq
  have h4 := h.hb
  { h with
    rdr := h.rdr.kept' (hg.block _ (by omega) (hne _ (by omega))) (fun k hk => hg.block _ (by omega) (hne _ (by omega)))
    box := h.box.grown hg (hne _ (Nat.le_refl _))
    res := h.res.grown hg (hne _ (by omega))
    bel := h.bel.grown hg (by omega) (by intro k hk; have := hb k hk; omega) }
theorem PIn.alloc {TR : TypeId} {base l g p q : Nat} {w0 w : World} {st : RS} {cs : Array Value} (h : PIn TR base l g p q w0 st cs w) (o : Obj) : PIn TR base l g p q w0 st cs (w.alloc o) :=
  h.other (World.grownBy_alloc w o none) (fun b e => by cases e)
theorem rCount_le (m : Nat) (st : RS) : (rCount m st).1 ≤ m := by
  unfold rCount
  split
  · exact Nat.zero_le _
  · split
    · assumption
    · exact Nat.zero_le _
theorem rCount_left {m : Nat} {st : RS} : rLeft (rCount m st).2 ≤ rLeft st := by
  have h := @rUint_left st
  unfold rCount
  split
  · simp [rLeft]
  · rename_i n rest e
    rw [e] at h
    split
    · exact h
    · simp [rLeft]

theorem rBlock_left {st : RS} : rLeft (rBlock st).2 ≤ rLeft st := by
  cases st with
  | none => exact Nat.le_refl _
  | some bs =>
    by_cases h : 8 ≤ bs.length
    · simp [rBlock, h, rLeft]
    · simp [rBlock, h, rLeft]
theorem rdPW_left1 (st : RS) : rLeft (rdPW st).2 ≤ rLeft st := Nat.le_trans rBlock_left (Nat.le_trans rUint_left (Nat.le_trans rCount_left rCount_left))
theorem rdPW_left (st : RS) : ∀ j, rLeft (rdN rdPW j st).2 ≤ rLeft st
  | 0 => Nat.le_refl _
  | j + 1 => Nat.le_trans (rdPW_left1 _) (rdPW_left st j)
theorem PIn.hF {TR : TypeId} {base l g p q : Nat} {w0 w : World} {st : RS} {cs : Array Value} (h : PIn TR base l g p q w0 st cs w) : ∀ k, (l ≤ k ∧ k < g) → k < w.heap.size ∧ k ≠ g := fun k hk => ⟨by have := h.gs; have := h.hp; omega, by omega⟩

theorem rInt_left {st : RS} : rLeft (rInt st).2 ≤ rLeft st := by
  have h := @rUint_left st
  unfold rInt
  split
  · simp [rLeft]
  · rename_i e
    rw [e] at h
    exact h
theorem rdMV_left1 (st : RS) : rLeft (rdMV st).2 ≤ rLeft st := Nat.le_trans rCount_left (Nat.le_trans rInt_left (Nat.le_trans rCount_left rCount_left))
theorem rdMV_left (st : RS) : ∀ j, rLeft (rdN rdMV j st).2 ≤ rLeft st
  | 0 => Nat.le_refl _
  | j + 1 => Nat.le_trans (rdMV_left1 _) (rdMV_left st j)

/-- at a loop's head: the row of the call's own besides; wS is the world where the loop began -/
structure PLp (TR : TypeId) (base l g p q b : Nat) (w0 wS : World) (st : RS) (cs : Array Value) (e : TypeId) (size : Nat) (v : Value) (n : Nat) (xs : List Value) (w : World) : Prop where
  (pin : PIn TR base l g p q w0 st cs w) (own : w.ownsRow b e size v n xs) (keep : ∀ k, k < b → k ≠ g → k ≠ p → w.heap[k]? = wS.heap[k]?) (hpb : p < b) (hbs : b ≤ w.heap.size)
/-- within a round: the element's block besides -/
structure PRow (TR : TypeId) (base l g p q b z : Nat) (w0 wS : World) (st : RS) (cs : Array Value) (T : TypeId) (zcs : Array Value) (e : TypeId) (size : Nat) (v : Value) (n : Nat) (xs : List Value) (w : World) : Prop where
  (lp : PLp TR base l g p q b w0 wS st cs e size v n xs w) (blk : Blk w z T zcs) (hz : b ≤ z) (hne : v.ownBlock ≠ some z)
section
variable {base l g p q b z size n : Nat} {w0 wS w w' : World} {st st' : RS} {cs zcs : Array Value} {TR T e : TypeId} {v : Value} {xs : List Value}
theorem PLp.other (h : PLp TR base l g p q b w0 wS st cs e size v n xs w) {row : Option Nat} (hg : w.grownBy w' row) (hb : ∀ k, row = some k → b ≤ k ∧ v.ownBlock ≠ some k) : PLp TR base l g p q b w0 wS st cs e size v n xs w' :=
  { h with
    pin := h.pin.other hg (fun k hk => by have := (hb k hk).1; have := h.hpb; omega)
    own := World.ownsRow.kept h.own hg (by
      cases row with
      | none =>
        cases hv : v.ownBlock with
        | none => exact .inl rfl
        | some k => exact .inr (by simp)
      | some k => exact .inr (hb k rfl).2)
    keep := fun k h1 h2 h3 => (hg.block k (by have := h.hbs; omega) (fun e => by have := (hb k e.symm).1; omega)).trans (h.keep k h1 h2 h3)
    hbs := Nat.le_trans h.hbs hg.size }
theorem PLp.step (h : PLp TR base l g p q b w0 wS st cs e size v n xs w) (hr : Rdr TR w' (fun k => l ≤ k ∧ k < g) g st') (hg : w.grownBy w' (some g)) : PLp TR base l g p q b w0 wS st' cs e size v n xs w' :=
  { h with
    pin := h.pin.step hr hg
    own := World.ownsRow.kept h.own hg (.inr (fun e => by have := (World.ownsRow.lt h.own _ e).1; have := h.pin.hp; have := h.hpb; omega))
    keep := fun k h1 h2 h3 => (hg.block k (by have := h.hbs; omega) (fun e => by injection e with e; exact h2 e)).trans (h.keep k h1 h2 h3)
    hbs := Nat.le_trans h.hbs hg.size }
theorem PLp.store (h : PLp TR base l g p q b w0 wS st cs e size v n xs w) (i : Nat) (u : Value) : PLp TR base l g p q b w0 wS st (cs.setIfInBounds i u) e size v n xs (w.setCell ⟨p, i, none⟩ u) :=
  have hg : w.grownBy (w.setCell ⟨p, i, none⟩ u) (some p) := only_set (only_refl _ _) i u
  { h with
    pin := h.pin.store i u
    own := World.ownsRow.kept h.own hg (.inr (fun e => by have := (World.ownsRow.lt h.own _ e).1; have := h.hpb; omega))
    keep := fun k h1 h2 h3 => (hg.block k (by have := h.hbs; omega) (fun e => by injection e with e; exact h3 e)).trans (h.keep k h1 h2 h3)
    hbs := Nat.le_trans h.hbs hg.size }
/-- the row has grown -/
theorem PLp.append (h : PLp TR base l g p q b w0 wS st cs e size v n xs w) {v' : Value} {n' : Nat} {xs' : List Value} (hown : w'.ownsRow b e size v' n' xs') (hg : w.grownBy w' v.ownBlock) : PLp TR base l g p q b w0 wS st cs e size v' n' xs' w' :=
  have hv : ∀ k, v.ownBlock = some k → b ≤ k := fun k hk => (World.ownsRow.lt h.own k hk).1
  { h with
    pin := h.pin.other hg (fun k hk => by have := hv k hk; have := h.hpb; omega)
    own := hown
    keep := fun k h1 h2 h3 => (hg.block k (by have := h.hbs; omega) (fun e => by have := hv k e.symm; omega)).trans (h.keep k h1 h2 h3)
    hbs := Nat.le_trans h.hbs hg.size }
theorem PLp.start (h : PIn TR base l g p q w0 st cs w) (e : TypeId) (size : Nat) : PLp TR base l g p q w.heap.size w0 w st cs e size (.slice none 0 0) 0 [] w :=
  { pin := h, own := World.ownsRow_nil _ _ _ _, keep := fun _ _ _ _ => rfl, hpb := h.gs, hbs := Nat.le_refl _ }
theorem PRow.step (h : PRow TR base l g p q b z w0 wS st cs T zcs e size v n xs w) (hr : Rdr TR w' (fun k => l ≤ k ∧ k < g) g st') (hg : w.grownBy w' (some g)) : PRow TR base l g p q b z w0 wS st' cs T zcs e size v n xs w' :=
  { h with
    lp := h.lp.step hr hg
    blk := h.blk.grown hg (by intro e; injection e; have := h.lp.pin.hp; have := h.lp.hpb; have := h.hz; omega) }
theorem PRow.turn (h : PRow TR base l g p q b z w0 wS st cs T zcs e size v n xs w) {zcs' : Array Value} (hb : Blk w' z T zcs') (hg : w.grownBy w' (some z)) : PRow TR base l g p q b z w0 wS st cs T zcs' e size v n xs w' :=
  { h with
    lp := h.lp.other hg (fun k hk => by injection hk with hk; subst hk; exact ⟨h.hz, h.hne⟩)
    blk := hb }
theorem PRow.set_ (h : PRow TR base l g p q b z w0 wS st cs T zcs e size v n xs w) (i : Nat) (u : Value) : PRow TR base l g p q b z w0 wS st cs T (zcs.setIfInBounds i u) e size v n xs (w.setCell ⟨z, i, none⟩ u) :=
  h.turn (h.blk.set_ i u) (only_set (only_refl _ _) i u)
theorem PRow.start (h : PLp TR base l g p q b w0 wS st cs e size v n xs w) (zcs : Array Value) (T : TypeId) : PRow TR base l g p q b w.heap.size w0 wS st cs T zcs e size v n xs (w.alloc (.cells zcs T)) :=
  { lp := h.other (World.grownBy_alloc w _ none) (fun k hk => by cases hk)
    blk := Blk.new _ _ _
    hz := h.hbs
    hne := fun e => by have := (World.ownsRow.lt h.own _ e).2; omega }
end
theorem grown_setCells (w : World) (z : Nat) : ∀ (l : List Value) (o : Nat) (w' : World), w.grownBy w' (some z) → w.grownBy (w'.setCells z o l) (some z)
  | [], _, _, h => h
  | v :: r, o, w', h => by
    rw [World.setCells]
    exact grown_setCells w z r (o + 1) _ (only_set h o v)

end Go.Proofs.Ytbcmpfdhpefdbaa

namespace Go.Proofs.Ytbcmpfdhpefdbaa
open Go.RowKit

theorem step_stBlk {P : Program} {ops : Array Oper} {o : Oper} {a : Act} {w : World} {K : Act → World → Prop} {Q : Exit → Act → World → Prop} {E : Prop} (hgd : o.guard = none) (ty : TypeId) (x y : Operand) (ho : o.op = .store ty x y) (g : Nat) (t : TypeId) (old cells : Array Value) (hg : Blk w g t old)
    (hx : a.eval x = .pointer (some ⟨g, 0, none⟩)) (hy : a.eval y = .agg cells) (hi : (P.info? ty).map (·.size) = some cells.size) (hs : old.size = cells.size) (h1 : cells.toList.all (·.oneCell') = true)
    (h : ∀ w', Blk w' g t cells → w.grownBy w' (some g) → K (a.put o.dst undef) w') :
    if Region.wanted o (yielded ops a.tmps) = true then Oper.wp P o a w K Q else E := by
  have hw : Region.wanted o (yielded ops a.tmps) = true := by simp [Region.wanted, hgd]
  rw [if_pos hw]
  exact wp_stBlk ty x y ho g t old cells hg hx hy hi hs h1 h
theorem run_loadAt_blk {P : Program} {w : World} {g : Nat} {t ty : TypeId} {cs : Array Value} {d : TypeDesc} (hg : Blk w g t cs) (hu : P.underlying ty = some d) (hd : isRow d = true) (hi : (P.info? ty).map (·.size) = some cs.size) :
    (Instr.loadAt ty (.pointer (some ⟨g, 0, none⟩))).run P w = .ok (.agg cs) w := by
  simp only [Instr.loadAt, Instr.sureAddr, Sem.run_bind, Sem.run_pure, Result.andThen_ok, run_loadVar_blk hg hu hd hi]

theorem RecIn.more' {w : World} {F G : Nat → Prop} {r : Rec} {Aw Am An : Option Addr} {nw cw nm cm nn cn : Nat} (h : RecIn w F r Aw nw cw Am nm cm An nn cn) (hk : ∀ k, F k → G k) : RecIn w G r Aw nw cw Am nm cm An nn cn :=
  { h with wr := ⟨h.wr.1, h.wr.2.more hk⟩, mv := ⟨h.mv.1, h.mv.2.more hk⟩, nt := h.nt.more hk }

/-- what both readings answer -/
def ParsePost (w : World) (bs : List UInt8) (e : Ending) (w' : World) : Prop :=
  ∃ (gn sq : Nat) (Aw : Option Addr) (nw cw : Nat) (Am : Option Addr) (nm cm : Nat) (An : Option Addr) (nn cn : Nat),
    e = .returned (.tuple #[.agg #[.int .u64 (gn : Int), .int .u64 (sq : Int), .slice Aw nw cw, .slice Am nm cm, .slice An nn cn], .bool (parseOk bs)]) ∧
    (parseOk bs = true → gn = (parseR bs).gen ∧ sq = (parseR bs).seq ∧ RecIn w' (fun k => k < w'.heap.size ∧ w.heap.size ≤ k) (parseR bs) Aw nw cw Am nm cm An nn cn) ∧ Below w.heap.size w w'

/-- before the last region and within it -/
structure PFin (TR : TypeId) (w0 : World) (g p q m : Nat) (st : RS) (r : Rec) (Aw : Option Addr) (nw cw : Nat) (Am : Option Addr) (nm cm : Nat) (An : Option Addr) (nn cn : Nat) (cq : Array Value) (w : World) : Prop where
  (rdr : Rdr TR w (fun k => q < k ∧ k < g) g st) (rec_ : RecIn w (fun k => k < m ∧ q < k) r Aw nw cw Am nm cm An nn cn) (box : Blk w p 27 (recCells r Aw nw cw Am nm cm An nn cn))
  (res : Blk w q 27 cq) (bel : Below w0.heap.size w0 w) (hm : m ≤ w.heap.size) (hq : w0.heap.size ≤ q) (hg : q < g) (hp : g < p) (hpm : p < m)
section
variable {TR : TypeId} {w0 w w' : World} {g p q m : Nat} {st : RS} {r : Rec} {Aw Am An : Option Addr} {nw cw nm cm nn cn : Nat} {cq : Array Value}
theorem PFin.drew (h : PFin TR w0 g p q m st r Aw nw cw Am nm cm An nn cn cq w) : PFin TR w0 g p q m st r Aw nw cw Am nm cm An nn cn cq w.drew :=
  { h with rdr := h.rdr, rec_ := h.rec_.keep (fun _ _ => rfl), box := h.box, res := h.res, bel := h.bel.drew, hm := h.hm }
theorem PFin.below (h : PFin TR w0 g p q m st r Aw nw cw Am nm cm An nn cn cq w) (hb : Below w.heap.size w w') : PFin TR w0 g p q m st r Aw nw cw Am nm cm An nn cn cq w' :=
  have h1 := h.hm
  have h2 := h.hpm
  have h3 := h.hp
  have h4 := h.hg
  { h with
    rdr := h.rdr.kept' (hb.block _ (by omega)) (fun k hk => hb.block _ (by omega))
    rec_ := h.rec_.keep (fun k hk => hb.block _ (by omega))
    box := h.box.below hb (by omega)
    res := h.res.below hb (by omega)
    bel := h.bel.trans (hb.mono h.bel.size)
    hm := Nat.le_trans h.hm hb.size }
theorem PFin.store (h : PFin TR w0 g p q m st r Aw nw cw Am nm cm An nn cn cq w) {cq' : Array Value} (hb : Blk w' q 27 cq') (hg : w.grownBy w' (some q)) : PFin TR w0 g p q m st r Aw nw cw Am nm cm An nn cn cq' w' :=
  have h1 := h.hm
  have h2 := h.hpm
  have h3 := h.hp
  have h4 := h.hg
  { h with
    rdr := h.rdr.kept' (hg.block _ (by omega) (by intro e; injection e; omega)) (fun k hk => hg.block _ (by omega) (by intro e; injection e; omega))
    rec_ := h.rec_.keep (fun k hk => hg.block _ (by omega) (by intro e; injection e; omega))
    box := h.box.grown hg (by intro e; injection e; omega)
    res := hb
    bel := h.bel.grown hg h.bel.size (by intro k hk; injection hk with hk; have := h.hq; omega)
    hm := Nat.le_trans h.hm hg.size }
theorem PFin.set1 (h : PFin TR w0 g p q m st r Aw nw cw Am nm cm An nn cn cq w) (i : Nat) (b : Value) : PFin TR w0 g p q m st r Aw nw cw Am nm cm An nn cn (cq.setIfInBounds i b) (w.setCell ⟨q, i, none⟩ b) :=
  h.store (h.res.set_ i b) (only_set (only_refl _ _) i b)
theorem PFin.set5 {a0 a1 a2 a3 a4 : Value} (h : PFin TR w0 g p q m st r Aw nw cw Am nm cm An nn cn #[a0, a1, a2, a3, a4] w) (b0 b1 b2 b3 b4 : Value) :
    PFin TR w0 g p q m st r Aw nw cw Am nm cm An nn cn #[b0, b1, b2, b3, b4] (((((w.setCell ⟨q, 0, none⟩ b0).setCell ⟨q, 1, none⟩ b1).setCell ⟨q, 2, none⟩ b2).setCell ⟨q, 3, none⟩ b3).setCell ⟨q, 4, none⟩ b4) :=
  ((((h.set1 0 b0).set1 1 b1).set1 2 b2).set1 3 b3).set1 4 b4
theorem PFin.put {a0 a1 a2 a3 a4 : Value} (h : PFin TR w0 g p q m st r Aw nw cw Am nm cm An nn cn #[a0, a1, a2, a3, a4] w) :
    PFin TR w0 g p q m st r Aw nw cw Am nm cm An nn cn (recCells r Aw nw cw Am nm cm An nn cn) (((((w.setCell ⟨q, 0, none⟩ (.int .u64 (r.gen : Int))).setCell ⟨q, 1, none⟩ (.int .u64 (r.seq : Int))).setCell ⟨q, 2, none⟩ (.slice Aw nw cw)).setCell ⟨q, 3, none⟩ (.slice Am nm cm)).setCell ⟨q, 4, none⟩ (.slice An nn cn)) :=
  h.set5 _ _ _ _ _
theorem PFin.z (h : PFin TR w0 g p q m st r Aw nw cw Am nm cm An nn cn #[.int .u64 0, .int .u64 0, .slice none 0 0, .slice none 0 0, .slice none 0 0] w) :
    (w.cell? ⟨q, 0, none⟩ = some (.int .u64 0) ∧ w.cell? ⟨q, 1, none⟩ = some (.int .u64 0) ∧ w.cell? ⟨q, 2, none⟩ = some (.slice none 0 0) ∧ w.cell? ⟨q, 3, none⟩ = some (.slice none 0 0) ∧ w.cell? ⟨q, 4, none⟩ = some (.slice none 0 0)) ∧
    ∀ i, w.frozen? ⟨q, i, none⟩ = false :=
  ⟨⟨h.res.cell 0, h.res.cell 1, h.res.cell 2, h.res.cell 3, h.res.cell 4⟩, fun i => h.res.frozen i⟩
theorem PFin.load (h : PFin TR w0 g p q m st r Aw nw cw Am nm cm An nn cn cq w) : (Instr.loadAt 27 (.pointer (some ⟨p, 0, none⟩))).run Try.prog w = .ok (.agg (recCells r Aw nw cw Am nm cm An nn cn)) w :=
  run_loadAt_blk h.box Try.underlying27 rfl info_rec
theorem PFin.post {bs : List UInt8} (h : PFin TR w0 g p q m st (parseR bs) Aw nw cw Am nm cm An nn cn cq w) : ParsePost w0 bs (.returned (.tuple #[.agg (recCells (parseR bs) Aw nw cw Am nm cm An nn cn), .bool (parseOk bs)])) w :=
  ⟨_, _, Aw, nw, cw, Am, nm, cm, An, nn, cn, rfl, fun _ => ⟨rfl, rfl, h.rec_.more' (fun k hk => ⟨by have := h.hm; omega, by have := h.hq; omega⟩)⟩, h.bel⟩
end

end Go.Proofs.Ytbcmpfdhpefdbaa
