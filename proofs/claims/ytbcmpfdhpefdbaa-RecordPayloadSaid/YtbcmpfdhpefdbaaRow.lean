/- Rows of PieceWrites and of Moves of the call's own. -/
import Derived.Test.YtbcmpfdhpefdbaaSS
import Derived.Test.YtbcmpfdhpefdbaaPay
import Derived.Deep.MidRow
set_option linter.unusedVariables false
set_option linter.unusedSimpArgs false
namespace Go.Proofs.Ytbcmpfdhpefdbaa
open Go.RowKit

def zPWc : Array Value := #[.int .i64 0, .int .i64 0, .int .u64 0, .int .u8 0, .int .u8 0, .int .u8 0, .int .u8 0, .int .u8 0, .int .u8 0, .int .u8 0, .int .u8 0]
def zMVc : Array Value := #[.int .i64 0, .int .i64 0, .int .i64 0, .int .i64 0]
theorem info_pwz : (Try.prog.info? 77).map (fun i => (i.zero, i.size, i.bytes)) = some (some (.agg zPWc), 11, 32) := by kernel_rfl
theorem info_mvz : (Try.prog.info? 82).map (fun i => (i.zero, i.size, i.bytes)) = some (some (.agg zMVc), 4, 32) := by kernel_rfl

def OwnW (base : Nat) (w : World) (v : Value) (ws : List PW) : Prop := w.ownsRow base 77 11 v ws.length (ws.flatMap PW.cells)
def OwnM (base : Nat) (w : World) (v : Value) (ms : List MV) : Prop := w.ownsRow base 82 4 v ms.length (ms.flatMap MV.cells)

/-- a fresh block that holds one element -/
theorem rd_blk {w : World} {g : Nat} {t : TypeId} {cs : List Value} (h : Blk w g t cs.toArray) : Rd w (fun k => k = g) cs.length (some ⟨g, 0, none⟩) 1 cs :=
  ⟨by simp, fun _ => ⟨_, _, rfl, rfl, fun j u hu => by rw [Nat.zero_add, h.cell]; simpa using hu⟩⟩

/-- append(out, p): the element has been laid into a block of its own first -/
theorem wpList_apW {ops : Array Oper} {rest : List Oper} {o : Oper} {a : Act} {w : World} {Q : Exit → Act → World → Prop} (hgd : o.guard = none) (s x : Operand)
    (ho : o.op = .call { callee := .builtin .append, args := #[s, x], argTypes := #[23, 23] })
    (base : Nat) (v : Value) (ws : List PW) (hs : a.eval s = v) (hown : OwnW base w v ws) (p : PW) (c' : Nat) (hx : a.eval x = .slice (some ⟨w.heap.size, 0, none⟩) 1 c')
    (hlen : ws.length + 1 ≤ 1000000000) (hbase : base ≤ w.heap.size)
    (h : ∀ v' w', OwnW base w' v' (ws ++ [p]) → w.grownBy w' v.ownBlock → (v'.ownBlock = v.ownBlock ∨ v'.ownBlock = some (w.heap.size + 1)) → wpList Try.prog ops Q rest (a.put o.dst v') w') :
    wpList Try.prog ops Q (o :: rest) a (w.alloc (.cells p.cells.toArray 77)) := by
  obtain ⟨i0, hi, hz0, hz1, hz2⟩ := info_parts info_pwz
  refine wpList_append_any (w.alloc (.cells p.cells.toArray 77)) hgd s x 23 ho base 77 i0 _ 11 32 Try.underlying23 hi hz0 hz1 hz2 rfl (by decide) v ws.length _ hs (World.ownsRow.alloc hown _) _ _ 1 c' p.cells hx (rd_blk (Blk.new _ _ _)) (by intro u hu; simp [PW.cells, B] at hu; rcases hu with rfl | rfl | rfl | rfl | rfl | rfl | rfl | rfl | rfl | rfl | rfl <;> rfl)
    (by simp only [maxLen]; omega) (by omega) (by simp; omega) ?_
  intro v' w' e1 e2 e3
  refine h v' w' ?_ ((World.grownBy_alloc w _ _).trans e2) (by simpa using e3)
  unfold OwnW
  rw [List.length_append, List.flatMap_append]
  simpa using e1

/-- append(out, p): the element has been laid into a block of its own first -/
theorem wpList_apM {ops : Array Oper} {rest : List Oper} {o : Oper} {a : Act} {w : World} {Q : Exit → Act → World → Prop} (hgd : o.guard = none) (s x : Operand)
    (ho : o.op = .call { callee := .builtin .append, args := #[s, x], argTypes := #[24, 24] })
    (base : Nat) (v : Value) (ws : List MV) (hs : a.eval s = v) (hown : OwnM base w v ws) (p : MV) (c' : Nat) (hx : a.eval x = .slice (some ⟨w.heap.size, 0, none⟩) 1 c')
    (hlen : ws.length + 1 ≤ 1000000000) (hbase : base ≤ w.heap.size)
    (h : ∀ v' w', OwnM base w' v' (ws ++ [p]) → w.grownBy w' v.ownBlock → (v'.ownBlock = v.ownBlock ∨ v'.ownBlock = some (w.heap.size + 1)) → wpList Try.prog ops Q rest (a.put o.dst v') w') :
    wpList Try.prog ops Q (o :: rest) a (w.alloc (.cells p.cells.toArray 82)) := by
  obtain ⟨i0, hi, hz0, hz1, hz2⟩ := info_parts info_mvz
  refine wpList_append_any (w.alloc (.cells p.cells.toArray 82)) hgd s x 24 ho base 82 i0 _ 4 32 Try.underlying24 hi hz0 hz1 hz2 rfl (by decide) v ws.length _ hs (World.ownsRow.alloc hown _) _ _ 1 c' p.cells hx (rd_blk (Blk.new _ _ _)) (by intro u hu; simp [MV.cells] at hu; rcases hu with rfl | rfl | rfl | rfl <;> rfl)
    (by simp only [maxLen]; omega) (by omega) (by simp; omega) ?_
  intro v' w' e1 e2 e3
  refine h v' w' ?_ ((World.grownBy_alloc w _ _).trans e2) (by simpa using e3)
  unfold OwnM
  rw [List.length_append, List.flatMap_append]
  simpa using e1

/-- eight bytes are stored from cell 3 on -/
theorem Blk.set8 {w : World} {g : Nat} {t : TypeId} {a b c d0 d1 d2 d3 d4 d5 d6 d7 : Value} (h : Blk w g t #[a, b, c, d0, d1, d2, d3, d4, d5, d6, d7]) (e0 e1 e2 e3 e4 e5 e6 e7 : Value) :
    Blk (w.setCells g 3 [e0, e1, e2, e3, e4, e5, e6, e7]) g t #[a, b, c, e0, e1, e2, e3, e4, e5, e6, e7] := by
  simp only [World.setCells]
  have h0 : Blk _ g t #[a, b, c, e0, d1, d2, d3, d4, d5, d6, d7] := h.set_ 3 e0
  have h1 : Blk _ g t #[a, b, c, e0, e1, d2, d3, d4, d5, d6, d7] := h0.set_ 4 e1
  have h2 : Blk _ g t #[a, b, c, e0, e1, e2, d3, d4, d5, d6, d7] := h1.set_ 5 e2
  have h3 : Blk _ g t #[a, b, c, e0, e1, e2, e3, d4, d5, d6, d7] := h2.set_ 6 e3
  have h4 : Blk _ g t #[a, b, c, e0, e1, e2, e3, e4, d5, d6, d7] := h3.set_ 7 e4
  have h5 : Blk _ g t #[a, b, c, e0, e1, e2, e3, e4, e5, d6, d7] := h4.set_ 8 e5
  have h6 : Blk _ g t #[a, b, c, e0, e1, e2, e3, e4, e5, e6, d7] := h5.set_ 9 e6
  have h7 : Blk _ g t #[a, b, c, e0, e1, e2, e3, e4, e5, e6, e7] := h6.set_ 10 e7
  exact h7

end Go.Proofs.Ytbcmpfdhpefdbaa
