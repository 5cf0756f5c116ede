/- Reading a record from its payload, plainly. -/
import Derived.Test.YtbcmpfdhpefdbaaRecP
set_option linter.unusedVariables false
set_option linter.unusedSimpArgs false
namespace Go.Proofs.Ytbcmpfdhpefdbaa

def rdPW (st : RS) : PW × RS :=
  (⟨((rCount 4096 st).1 : Nat), ((rCount 16 (rCount 4096 st).2).1 : Nat), (rUint (rCount 16 (rCount 4096 st).2).2).1, (rBlock (rUint (rCount 16 (rCount 4096 st).2).2).2).1⟩,
   (rBlock (rUint (rCount 16 (rCount 4096 st).2).2).2).2)
def rdMV (st : RS) : MV × RS :=
  (⟨((rCount 4096 st).1 : Nat), ((rCount 16 (rCount 4096 st).2).1 : Nat), (rInt (rCount 16 (rCount 4096 st).2).2).1, ((rCount 65536 (rInt (rCount 16 (rCount 4096 st).2).2).2).1 : Nat)⟩,
   (rCount 65536 (rInt (rCount 16 (rCount 4096 st).2).2).2).2)
/-- f, n times over -/
def rdN {α : Type} (f : RS → α × RS) : Nat → RS → List α × RS
  | 0, st => ([], st)
  | n + 1, st => ((rdN f n st).1 ++ [(f (rdN f n st).2).1], (f (rdN f n st).2).2)
theorem rdN_len {α : Type} (f : RS → α × RS) : ∀ n st, (rdN f n st).1.length = n
  | 0, _ => rfl
  | n + 1, st => by simp [rdN, rdN_len f n st]

def pGen (bs : List UInt8) := rUint (some bs)
def pSeq (bs : List UInt8) := rUint (pGen bs).2
def pNW (bs : List UInt8) := rCount 64 (pSeq bs).2
def pWs (bs : List UInt8) := rdN rdPW (pNW bs).1 (pNW bs).2
def pNM (bs : List UInt8) := rCount 64 (pWs bs).2
def pMs (bs : List UInt8) := rdN rdMV (pNM bs).1 (pNM bs).2
def pNt (bs : List UInt8) := rBytes (pMs bs).2
/-- the record that 'parse' reads, and whether it is taken -/
def parseR (bs : List UInt8) : Rec := ⟨(pGen bs).1, (pSeq bs).1, (pWs bs).1, (pMs bs).1, (pNt bs).1⟩
def parseOk (bs : List UInt8) : Bool := decide (rDone (pNt bs).2 = 0) && (parseR bs).vld

end Go.Proofs.Ytbcmpfdhpefdbaa
