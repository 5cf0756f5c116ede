/- What Inspect answers, plainly. -/
import Derived.Test.YtbcmpfdhpefdbaaSS
import Derived.Test.YtbcmpfdhpefdbaaCodec2
set_option linter.unusedVariables false
set_option linter.unusedSimpArgs false
namespace Go.Proofs.Ytbcmpfdhpefdbaa
open Go.RowKit

structure Ins where
  (gen seq part parts : Nat) (chunk : List UInt8) (code : Int)
  deriving DecidableEq
def Ins.bad (c : Int) : Ins := ⟨0, 0, 0, 0, [], c⟩
/-- the four numbers and the chunk behind them -/
def insR (st : RS) : Ins :=
  if rDone (rBytes (rUint (rUint (rUint (rUint st).2).2).2).2).2 ≠ 0 ∨ (rUint (rUint st).2).1 < 1 ∨ 4096 < (rUint (rUint (rUint (rUint st).2).2).2).1 ∨
    (rUint (rUint (rUint (rUint st).2).2).2).1 ≤ (rUint (rUint (rUint st).2).2).1 ∨ (rBytes (rUint (rUint (rUint (rUint st).2).2).2).2).1.length < 1 ∨ 28 < (rBytes (rUint (rUint (rUint (rUint st).2).2).2).2).1.length then Ins.bad 5
  else ⟨(rUint st).1, (rUint (rUint st).2).1, (rUint (rUint (rUint st).2).2).1, (rUint (rUint (rUint (rUint st).2).2).2).1, (rBytes (rUint (rUint (rUint (rUint st).2).2).2).2).1, 0⟩
def insp (b : List UInt8) : Ins :=
  if b.length < 8 ∨ b[0]? ≠ some 82 then Ins.bad 5
  else if sealB (b.take (b.length - 8)) ≠ b then Ins.bad 6
  else if b.length = 8 then Ins.bad 5
  else insR (some ((b.take (b.length - 8)).drop 1))

def Ins.cells (x : Ins) : Array Value := #[.int .u64 (x.gen : Int), .int .u64 (x.seq : Int), .int .i64 (x.part : Int), .int .i64 (x.parts : Int)]
def InspPost (F : Nat → Prop) (w : World) (x : Ins) (e : Ending) (w' : World) : Prop :=
  ∃ A n c, e = .returned (.tuple #[.agg x.cells, .slice A n c, .int .i64 x.code]) ∧ n ≤ c ∧ c ≤ maxLen ∧ RdB w' (fun k => k < w'.heap.size ∧ (F k ∨ w.heap.size ≤ k)) A n x.chunk ∧ Below w.heap.size w w'
theorem inspPost_bad {F : Nat → Prop} {w : World} {c : Int} {w' : World} (hb : Below w.heap.size w w') : InspPost F w (Ins.bad c) (.returned (.tuple #[.agg #[.int .u64 0, .int .u64 0, .int .i64 0, .int .i64 0], .slice none 0 0, .int .i64 c])) w' :=
  ⟨none, 0, 0, rfl, Nat.le_refl _, Nat.zero_le _, ⟨rfl, Rd.none_⟩, hb⟩
theorem rTake_len (n : Nat) (st : RS) : (rTake n st).1.length ≤ rLeft st := by
  cases st with
  | none => simp [rTake, rLeft]
  | some bs =>
    by_cases hn : n ≤ bs.length
    · simp [rTake, hn, rLeft]
    · simp [rTake, hn]
theorem rBytes_len (st : RS) : (rBytes st).1.length ≤ rLeft st := by
  have h := @rUint_left st
  unfold rBytes
  split
  · simp
  · rename_i n rest e
    rw [e] at h
    exact Nat.le_trans (rTake_len _ _) h

end Go.Proofs.Ytbcmpfdhpefdbaa
