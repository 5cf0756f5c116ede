/- The last region of a reading of a record. -/
import Derived.Test.YtbcmpfdhpefdbaaPIn
import Derived.Test.YtbcmpfdhpefdbaaPaylP
set_option linter.unusedVariables false
set_option linter.unusedSimpArgs false
namespace Go.Proofs.Ytbcmpfdhpefdbaa
open Go.RowKit

theorem step_stBlk {P : Program} {ops : Array Oper} {o : Oper} {a : Act} {w : World} {K : Act → World → Prop} {Q : Exit → Act → World → Prop} {E : Prop} (hgd : o.guard = none) (ty : TypeId) (x y : Operand) (ho : o.op = .store ty x y) (g : Nat) (t : TypeId) (old cells : Array Value) (hg : Blk w g t old)
    (hx : a.eval x = .pointer (some ⟨g, 0, none⟩)) (hy : a.eval y = .agg cells) (hi : (P.info? ty).map (·.size) = some cells.size) (hs : old.size = cells.size) (h1 : cells.toList.all (·.oneCell') = true)
    (h : ∀ w', Blk w' g t cells → w.grownBy w' (some g) → K (a.put o.dst undef) w') :
    if Region.wanted o (yielded ops a.tmps) = true then Oper.wp P o a w K Q else E := by
  have hw : Region.wanted o (yielded ops a.tmps) = true := by simp [Region.wanted, hgd]
  rw [if_pos hw]
  exact wp_stBlk ty x y ho g t old cells hg hx hy hi hs h1 h
theorem run_loadAt_blk {P : Program} {w : World} {g : Nat} {t ty : TypeId} {cs : Array Value} {d : TypeDesc} (hg : Blk w g t cs) (hu : P.underlying ty = some d) (hd : isRow d = true) (hi : (P.info? ty).map (·.size) = some cs.size) :
    (Instr.loadAt ty (.pointer (some ⟨g, 0, none⟩))).run P w = .ok (.agg cs) w := by
  simp only [Instr.loadAt, Instr.sureAddr, Sem.run_bind, Sem.run_pure, Result.andThen_ok, run_loadVar_blk hg hu hd hi]

theorem RecIn.more' {w : World} {F G : Nat → Prop} {r : Rec} {Aw Am An : Option Addr} {nw cw nm cm nn cn : Nat} (h : RecIn w F r Aw nw cw Am nm cm An nn cn) (hk : ∀ k, F k → G k) : RecIn w G r Aw nw cw Am nm cm An nn cn :=
  { h with wr := ⟨h.wr.1, h.wr.2.more hk⟩, mv := ⟨h.mv.1, h.mv.2.more hk⟩, nt := h.nt.more hk }

/-- what both readings answer -/
def ParsePost (w : World) (bs : List UInt8) (e : Ending) (w' : World) : Prop :=
  ∃ (gn sq : Nat) (Aw : Option Addr) (nw cw : Nat) (Am : Option Addr) (nm cm : Nat) (An : Option Addr) (nn cn : Nat),
    e = .returned (.tuple #[.agg #[.int .u64 (gn : Int), .int .u64 (sq : Int), .slice Aw nw cw, .slice Am nm cm, .slice An nn cn], .bool (parseOk bs)]) ∧
    (parseOk bs = true → gn = (parseR bs).gen ∧ sq = (parseR bs).seq ∧ RecIn w' (fun k => k < w'.heap.size ∧ w.heap.size ≤ k) (parseR bs) Aw nw cw Am nm cm An nn cn) ∧ Below w.heap.size w w'

/-- before the last region and within it -/
structure PFin (TR : TypeId) (w0 : World) (g p q m : Nat) (st : RS) (r : Rec) (Aw : Option Addr) (nw cw : Nat) (Am : Option Addr) (nm cm : Nat) (An : Option Addr) (nn cn : Nat) (cq : Array Value) (w : World) : Prop where
  (rdr : Rdr TR w (fun k => q < k ∧ k < g) g st) (rec_ : RecIn w (fun k => k < m ∧ q < k) r Aw nw cw Am nm cm An nn cn) (box : Blk w p 27 (recCells r Aw nw cw Am nm cm An nn cn))
  (res : Blk w q 27 cq) (bel : Below w0.heap.size w0 w) (hm : m ≤ w.heap.size) (hq : w0.heap.size ≤ q) (hg : q < g) (hp : g < p) (hpm : p < m)
section
variable {TR : TypeId} {w0 w w' : World} {g p q m : Nat} {st : RS} {r : Rec} {Aw Am An : Option Addr} {nw cw nm cm nn cn : Nat} {cq : Array Value}
theorem PFin.drew (h : PFin TR w0 g p q m st r Aw nw cw Am nm cm An nn cn cq w) : PFin TR w0 g p q m st r Aw nw cw Am nm cm An nn cn cq w.drew :=
  { h with rdr := h.rdr, rec_ := h.rec_.keep (fun _ _ => rfl), box := h.box, res := h.res, bel := h.bel.drew, hm := h.hm }
theorem PFin.below (h : PFin TR w0 g p q m st r Aw nw cw Am nm cm An nn cn cq w) (hb : Below w.heap.size w w') : PFin TR w0 g p q m st r Aw nw cw Am nm cm An nn cn cq w' :=
  have h1 := h.hm
  have h2 := h.hpm
  have h3 := h.hp
  have h4 := h.hg
  { h with
    rdr := h.rdr.kept' (hb.block _ (by omega)) (fun k hk => hb.block _ (by omega))
    rec_ := h.rec_.keep (fun k hk => hb.block _ (by omega))
    box := h.box.below hb (by omega)
    res := h.res.below hb (by omega)
    bel := h.bel.trans (hb.mono h.bel.size)
    hm := Nat.le_trans h.hm hb.size }
theorem PFin.store (h : PFin TR w0 g p q m st r Aw nw cw Am nm cm An nn cn cq w) {cq' : Array Value} (hb : Blk w' q 27 cq') (hg : w.grownBy w' (some q)) : PFin TR w0 g p q m st r Aw nw cw Am nm cm An nn cn cq' w' :=
  have h1 := h.hm
  have h2 := h.hpm
  have h3 := h.hp
  have h4 := h.hg
  { h with
    rdr := h.rdr.kept' (hg.block _ (by omega) (by intro e; injection e; omega)) (fun k hk => hg.block _ (by omega) (by intro e; injection e; omega))
    rec_ := h.rec_.keep (fun k hk => hg.block _ (by omega) (by intro e; injection e; omega))
    box := h.box.grown hg (by intro e; injection e; omega)
    res := hb
    bel := h.bel.grown hg h.bel.size (by intro k hk; injection hk with hk; have := h.hq; omega)
    hm := Nat.le_trans h.hm hg.size }
theorem PFin.set1 (h : PFin TR w0 g p q m st r Aw nw cw Am nm cm An nn cn cq w) (i : Nat) (b : Value) : PFin TR w0 g p q m st r Aw nw cw Am nm cm An nn cn (cq.setIfInBounds i b) (w.setCell ⟨q, i, none⟩ b) :=
  h.store (h.res.set_ i b) (only_set (only_refl _ _) i b)
theorem PFin.set5 {a0 a1 a2 a3 a4 : Value} (h : PFin TR w0 g p q m st r Aw nw cw Am nm cm An nn cn #[a0, a1, a2, a3, a4] w) (b0 b1 b2 b3 b4 : Value) :
    PFin TR w0 g p q m st r Aw nw cw Am nm cm An nn cn #[b0, b1, b2, b3, b4] (((((w.setCell ⟨q, 0, none⟩ b0).setCell ⟨q, 1, none⟩ b1).setCell ⟨q, 2, none⟩ b2).setCell ⟨q, 3, none⟩ b3).setCell ⟨q, 4, none⟩ b4) :=
  ((((h.set1 0 b0).set1 1 b1).set1 2 b2).set1 3 b3).set1 4 b4
theorem PFin.put {a0 a1 a2 a3 a4 : Value} (h : PFin TR w0 g p q m st r Aw nw cw Am nm cm An nn cn #[a0, a1, a2, a3, a4] w) :
    PFin TR w0 g p q m st r Aw nw cw Am nm cm An nn cn (recCells r Aw nw cw Am nm cm An nn cn) (((((w.setCell ⟨q, 0, none⟩ (.int .u64 (r.gen : Int))).setCell ⟨q, 1, none⟩ (.int .u64 (r.seq : Int))).setCell ⟨q, 2, none⟩ (.slice Aw nw cw)).setCell ⟨q, 3, none⟩ (.slice Am nm cm)).setCell ⟨q, 4, none⟩ (.slice An nn cn)) :=
  h.set5 _ _ _ _ _
theorem PFin.z (h : PFin TR w0 g p q m st r Aw nw cw Am nm cm An nn cn #[.int .u64 0, .int .u64 0, .slice none 0 0, .slice none 0 0, .slice none 0 0] w) :
    (w.cell? ⟨q, 0, none⟩ = some (.int .u64 0) ∧ w.cell? ⟨q, 1, none⟩ = some (.int .u64 0) ∧ w.cell? ⟨q, 2, none⟩ = some (.slice none 0 0) ∧ w.cell? ⟨q, 3, none⟩ = some (.slice none 0 0) ∧ w.cell? ⟨q, 4, none⟩ = some (.slice none 0 0)) ∧
    ∀ i, w.frozen? ⟨q, i, none⟩ = false :=
  ⟨⟨h.res.cell 0, h.res.cell 1, h.res.cell 2, h.res.cell 3, h.res.cell 4⟩, fun i => h.res.frozen i⟩
theorem PFin.load (h : PFin TR w0 g p q m st r Aw nw cw Am nm cm An nn cn cq w) : (Instr.loadAt 27 (.pointer (some ⟨p, 0, none⟩))).run Try.prog w = .ok (.agg (recCells r Aw nw cw Am nm cm An nn cn)) w :=
  run_loadAt_blk h.box Try.underlying27 rfl info_rec
theorem PFin.post {bs : List UInt8} (h : PFin TR w0 g p q m st (parseR bs) Aw nw cw Am nm cm An nn cn cq w) : ParsePost w0 bs (.returned (.tuple #[.agg (recCells (parseR bs) Aw nw cw Am nm cm An nn cn), .bool (parseOk bs)])) w :=
  ⟨_, _, Aw, nw, cw, Am, nm, cm, An, nn, cn, rfl, fun _ => ⟨rfl, rfl, h.rec_.more' (fun k hk => ⟨by have := h.hm; omega, by have := h.hq; omega⟩)⟩, h.bel⟩
end

end Go.Proofs.Ytbcmpfdhpefdbaa
