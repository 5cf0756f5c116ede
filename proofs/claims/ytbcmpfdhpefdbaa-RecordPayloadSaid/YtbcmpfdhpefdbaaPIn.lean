/- What holds between two reads of parse. -/
import Derived.Test.YtbcmpfdhpefdbaaParseP
import Derived.Test.YtbcmpfdhpefdbaaRow
import Derived.Test.YtbcmpfdhpefdbaaCodec3
import Derived.Test.YtbcmpfdhpefdbaaInsP
import Derived.Test.YtbcmpfdhpefdbaaEnc27b
set_option linter.unusedVariables false
set_option linter.unusedSimpArgs false
namespace Go.Proofs.Ytbcmpfdhpefdbaa
open Go.RowKit
attribute [local irreducible] Go.Calls

def zRec : Array Value := #[.int .u64 0, .int .u64 0, .slice none 0 0, .slice none 0 0, .slice none 0 0]

/-- between two reads: the reader, the record's box, the result's box -/
structure PIn (TR : TypeId) (base l g p q : Nat) (w0 : World) (st : RS) (cs : Array Value) (w : World) : Prop where
  (rdr : Rdr TR w (fun k => l ≤ k ∧ k < g) g st) (box : Blk w p 27 cs)
  (res : Blk w q 27 #[.int .u64 0, .int .u64 0, .slice none 0 0, .slice none 0 0, .slice none 0 0]) (bel : Below base w0 w)
  (hb : base ≤ q) (hq : q < l) (hl : l ≤ g) (hp : g < p)
theorem Rdr.moreF {T : TypeId} {w : World} {F G : Nat → Prop} {g : Nat} {st : RS} (h : Rdr T w F g st) (hk : ∀ k, F k → G k) : Rdr T w G g st := by
  obtain ⟨A, n, c, b, hb, h1, h2, h3⟩ := h
  refine ⟨A, n, c, b, hb, h1, h2, ?_⟩
  cases st with
  | none => exact h3
  | some bs => exact ⟨h3.1, h3.2.1, h3.2.2.more hk⟩
theorem PIn.gs {TR : TypeId} {base l g p q : Nat} {w0 w : World} {st : RS} {cs : Array Value} (h : PIn TR base l g p q w0 st cs w) : p < w.heap.size := h.box.lt
theorem PIn.step {TR : TypeId} {base l g p q : Nat} {w0 w w' : World} {st st' : RS} {cs : Array Value} (h : PIn TR base l g p q w0 st cs w) (hr : Rdr TR w' (fun k => l ≤ k ∧ k < g) g st') (hg : w.grownBy w' (some g)) : PIn TR base l g p q w0 st' cs w' :=
  { h with
    rdr := hr
    box := h.box.grown hg (by intro e; injection e; have := h.hp; omega)
    res := h.res.grown hg (by intro e; injection e; have := h.hq; have := h.hl; omega)
    bel := h.bel.grown hg (by have := h.box.lt; have := h.hb; have := h.hq; have := h.hl; have := h.hp; omega) (by intro k hk; injection hk with hk; have := h.hb; have := h.hq; have := h.hl; omega) }
theorem Rdr.kept' {T : TypeId} {w w' : World} {F : Nat → Prop} {g : Nat} {st : RS} (h : Rdr T w F g st) (hg : w'.heap[g]? = w.heap[g]?) (hk : Kp F w w') : Rdr T w' F g st := by
  obtain ⟨A, n, c, b, hb, h1, h2, h3⟩ := h
  refine ⟨A, n, c, b, hg.trans hb, h1, h2, ?_⟩
  cases st with
  | none => exact h3
  | some bs => exact ⟨h3.1, h3.2.keep hk⟩
theorem PIn.store {TR : TypeId} {base l g p q : Nat} {w0 w : World} {st : RS} {cs : Array Value} (h : PIn TR base l g p q w0 st cs w) (i : Nat) (v : Value) : PIn TR base l g p q w0 st (cs.setIfInBounds i v) (w.setCell ⟨p, i, none⟩ v) :=
  { h with
    rdr := h.rdr.kept' (Below.heap_setCell _ _ _ _ (by have := h.hp; simp only; omega)) (fun k hk => Below.heap_setCell _ _ _ _ (by have := h.hp; simp only; omega))
    box := h.box.set_ i v
    res := h.res.far (by have := h.hp; have := h.hq; have := h.hl; simp only; omega) v
    bel := h.bel.setCell (by have := h.hp; have := h.hb; have := h.hq; have := h.hl; simp only; omega) v }

/-- a step that turns one block beyond the record's box, or none -/
theorem PIn.other {TR : TypeId} {base l g p q : Nat} {w0 w w' : World} {st : RS} {cs : Array Value} (h : PIn TR base l g p q w0 st cs w) {row : Option Nat} (hg : w.grownBy w' row) (hb : ∀ b, row = some b → p < b) : PIn TR base l g p q w0 st cs w' :=
  have hne : ∀ k, k ≤ p → some k ≠ row := fun k hk e => by have := hb k e.symm; omega
  have hps := h.gs
  have h1 := h.hp
  have h2 := h.hl
  have h3 := h.hq
  have h4 := h.hb
  { h with
    rdr := h.rdr.kept' (hg.block _ (by omega) (hne _ (by omega))) (fun k hk => hg.block _ (by omega) (hne _ (by omega)))
    box := h.box.grown hg (hne _ (Nat.le_refl _))
    res := h.res.grown hg (hne _ (by omega))
    bel := h.bel.grown hg (by omega) (by intro k hk; have := hb k hk; omega) }
theorem PIn.alloc {TR : TypeId} {base l g p q : Nat} {w0 w : World} {st : RS} {cs : Array Value} (h : PIn TR base l g p q w0 st cs w) (o : Obj) : PIn TR base l g p q w0 st cs (w.alloc o) :=
  h.other (World.grownBy_alloc w o none) (fun b e => by cases e)
theorem rCount_le (m : Nat) (st : RS) : (rCount m st).1 ≤ m := by
  unfold rCount
  split
  · exact Nat.zero_le _
  · split
    · assumption
    · exact Nat.zero_le _
theorem rCount_left {m : Nat} {st : RS} : rLeft (rCount m st).2 ≤ rLeft st := by
  have h := @rUint_left st
  unfold rCount
  split
  · simp [rLeft]
  · rename_i n rest e
    rw [e] at h
    split
    · exact h
    · simp [rLeft]

theorem rBlock_left {st : RS} : rLeft (rBlock st).2 ≤ rLeft st := by
  cases st with
  | none => exact Nat.le_refl _
  | some bs =>
    by_cases h : 8 ≤ bs.length
    · simp [rBlock, h, rLeft]
    · simp [rBlock, h, rLeft]
theorem rdPW_left1 (st : RS) : rLeft (rdPW st).2 ≤ rLeft st := Nat.le_trans rBlock_left (Nat.le_trans rUint_left (Nat.le_trans rCount_left rCount_left))
theorem rdPW_left (st : RS) : ∀ j, rLeft (rdN rdPW j st).2 ≤ rLeft st
  | 0 => Nat.le_refl _
  | j + 1 => Nat.le_trans (rdPW_left1 _) (rdPW_left st j)
theorem PIn.hF {TR : TypeId} {base l g p q : Nat} {w0 w : World} {st : RS} {cs : Array Value} (h : PIn TR base l g p q w0 st cs w) : ∀ k, (l ≤ k ∧ k < g) → k < w.heap.size ∧ k ≠ g := fun k hk => ⟨by have := h.gs; have := h.hp; omega, by omega⟩

theorem rInt_left {st : RS} : rLeft (rInt st).2 ≤ rLeft st := by
  have h := @rUint_left st
  unfold rInt
  split
  · simp [rLeft]
  · rename_i e
    rw [e] at h
    exact h
theorem rdMV_left1 (st : RS) : rLeft (rdMV st).2 ≤ rLeft st := Nat.le_trans rCount_left (Nat.le_trans rInt_left (Nat.le_trans rCount_left rCount_left))
theorem rdMV_left (st : RS) : ∀ j, rLeft (rdN rdMV j st).2 ≤ rLeft st
  | 0 => Nat.le_refl _
  | j + 1 => Nat.le_trans (rdMV_left1 _) (rdMV_left st j)

/-- at a loop's head: the row of the call's own besides; wS is the world where the loop began -/
structure PLp (TR : TypeId) (base l g p q b : Nat) (w0 wS : World) (st : RS) (cs : Array Value) (e : TypeId) (size : Nat) (v : Value) (n : Nat) (xs : List Value) (w : World) : Prop where
  (pin : PIn TR base l g p q w0 st cs w) (own : w.ownsRow b e size v n xs) (keep : ∀ k, k < b → k ≠ g → k ≠ p → w.heap[k]? = wS.heap[k]?) (hpb : p < b) (hbs : b ≤ w.heap.size)
/-- within a round: the element's block besides -/
structure PRow (TR : TypeId) (base l g p q b z : Nat) (w0 wS : World) (st : RS) (cs : Array Value) (T : TypeId) (zcs : Array Value) (e : TypeId) (size : Nat) (v : Value) (n : Nat) (xs : List Value) (w : World) : Prop where
  (lp : PLp TR base l g p q b w0 wS st cs e size v n xs w) (blk : Blk w z T zcs) (hz : b ≤ z) (hne : v.ownBlock ≠ some z)
section
variable {base l g p q b z size n : Nat} {w0 wS w w' : World} {st st' : RS} {cs zcs : Array Value} {TR T e : TypeId} {v : Value} {xs : List Value}
theorem PLp.other (h : PLp TR base l g p q b w0 wS st cs e size v n xs w) {row : Option Nat} (hg : w.grownBy w' row) (hb : ∀ k, row = some k → b ≤ k ∧ v.ownBlock ≠ some k) : PLp TR base l g p q b w0 wS st cs e size v n xs w' :=
  { h with
    pin := h.pin.other hg (fun k hk => by have := (hb k hk).1; have := h.hpb; omega)
    own := World.ownsRow.kept h.own hg (by
      cases row with
      | none =>
        cases hv : v.ownBlock with
        | none => exact .inl rfl
        | some k => exact .inr (by simp)
      | some k => exact .inr (hb k rfl).2)
    keep := fun k h1 h2 h3 => (hg.block k (by have := h.hbs; omega) (fun e => by have := (hb k e.symm).1; omega)).trans (h.keep k h1 h2 h3)
    hbs := Nat.le_trans h.hbs hg.size }
theorem PLp.step (h : PLp TR base l g p q b w0 wS st cs e size v n xs w) (hr : Rdr TR w' (fun k => l ≤ k ∧ k < g) g st') (hg : w.grownBy w' (some g)) : PLp TR base l g p q b w0 wS st' cs e size v n xs w' :=
  { h with
    pin := h.pin.step hr hg
    own := World.ownsRow.kept h.own hg (.inr (fun e => by have := (World.ownsRow.lt h.own _ e).1; have := h.pin.hp; have := h.hpb; omega))
    keep := fun k h1 h2 h3 => (hg.block k (by have := h.hbs; omega) (fun e => by injection e with e; exact h2 e)).trans (h.keep k h1 h2 h3)
    hbs := Nat.le_trans h.hbs hg.size }
theorem PLp.store (h : PLp TR base l g p q b w0 wS st cs e size v n xs w) (i : Nat) (u : Value) : PLp TR base l g p q b w0 wS st (cs.setIfInBounds i u) e size v n xs (w.setCell ⟨p, i, none⟩ u) :=
  have hg : w.grownBy (w.setCell ⟨p, i, none⟩ u) (some p) := only_set (only_refl _ _) i u
  { h with
    pin := h.pin.store i u
    own := World.ownsRow.kept h.own hg (.inr (fun e => by have := (World.ownsRow.lt h.own _ e).1; have := h.hpb; omega))
    keep := fun k h1 h2 h3 => (hg.block k (by have := h.hbs; omega) (fun e => by injection e with e; exact h3 e)).trans (h.keep k h1 h2 h3)
    hbs := Nat.le_trans h.hbs hg.size }
/-- the row has grown -/
theorem PLp.append (h : PLp TR base l g p q b w0 wS st cs e size v n xs w) {v' : Value} {n' : Nat} {xs' : List Value} (hown : w'.ownsRow b e size v' n' xs') (hg : w.grownBy w' v.ownBlock) : PLp TR base l g p q b w0 wS st cs e size v' n' xs' w' :=
  have hv : ∀ k, v.ownBlock = some k → b ≤ k := fun k hk => (World.ownsRow.lt h.own k hk).1
  { h with
    pin := h.pin.other hg (fun k hk => by have := hv k hk; have := h.hpb; omega)
    own := hown
    keep := fun k h1 h2 h3 => (hg.block k (by have := h.hbs; omega) (fun e => by have := hv k e.symm; omega)).trans (h.keep k h1 h2 h3)
    hbs := Nat.le_trans h.hbs hg.size }
theorem PLp.start (h : PIn TR base l g p q w0 st cs w) (e : TypeId) (size : Nat) : PLp TR base l g p q w.heap.size w0 w st cs e size (.slice none 0 0) 0 [] w :=
  { pin := h, own := World.ownsRow_nil _ _ _ _, keep := fun _ _ _ _ => rfl, hpb := h.gs, hbs := Nat.le_refl _ }
theorem PRow.step (h : PRow TR base l g p q b z w0 wS st cs T zcs e size v n xs w) (hr : Rdr TR w' (fun k => l ≤ k ∧ k < g) g st') (hg : w.grownBy w' (some g)) : PRow TR base l g p q b z w0 wS st' cs T zcs e size v n xs w' :=
  { h with
    lp := h.lp.step hr hg
    blk := h.blk.grown hg (by intro e; injection e; have := h.lp.pin.hp; have := h.lp.hpb; have := h.hz; omega) }
theorem PRow.turn (h : PRow TR base l g p q b z w0 wS st cs T zcs e size v n xs w) {zcs' : Array Value} (hb : Blk w' z T zcs') (hg : w.grownBy w' (some z)) : PRow TR base l g p q b z w0 wS st cs T zcs' e size v n xs w' :=
  { h with
    lp := h.lp.other hg (fun k hk => by injection hk with hk; subst hk; exact ⟨h.hz, h.hne⟩)
    blk := hb }
theorem PRow.set_ (h : PRow TR base l g p q b z w0 wS st cs T zcs e size v n xs w) (i : Nat) (u : Value) : PRow TR base l g p q b z w0 wS st cs T (zcs.setIfInBounds i u) e size v n xs (w.setCell ⟨z, i, none⟩ u) :=
  h.turn (h.blk.set_ i u) (only_set (only_refl _ _) i u)
theorem PRow.start (h : PLp TR base l g p q b w0 wS st cs e size v n xs w) (zcs : Array Value) (T : TypeId) : PRow TR base l g p q b w.heap.size w0 wS st cs T zcs e size v n xs (w.alloc (.cells zcs T)) :=
  { lp := h.other (World.grownBy_alloc w _ none) (fun k hk => by cases hk)
    blk := Blk.new _ _ _
    hz := h.hbs
    hne := fun e => by have := (World.ownsRow.lt h.own _ e).2; omega }
end
theorem grown_setCells (w : World) (z : Nat) : ∀ (l : List Value) (o : Nat) (w' : World), w.grownBy w' (some z) → w.grownBy (w'.setCells z o l) (some z)
  | [], _, _, h => h
  | v :: r, o, w', h => by
    rw [World.setCells]
    exact grown_setCells w z r (o + 1) _ (only_set h o v)

end Go.Proofs.Ytbcmpfdhpefdbaa
