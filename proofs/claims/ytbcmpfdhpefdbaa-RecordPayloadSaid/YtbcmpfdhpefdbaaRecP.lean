/- The plain record: validity, payload, sectors, and reading them back. -/
import Derived.Test.YtbcmpfdhpefdbaaPure
set_option linter.unusedVariables false
set_option linter.unusedSimpArgs false
namespace Go.Proofs.Ytbcmpfdhpefdbaa

structure PW where
  (group piece : Int) (version : Nat) (data : B8)
  deriving DecidableEq
structure MV where
  (group piece disk block : Int)
  deriving DecidableEq
structure Rec where
  (gen seq : Nat) (writes : List PW) (moves : List MV) (note : List UInt8)
  deriving DecidableEq

def I64 (n : Int) : Prop := -9223372036854775808 ≤ n ∧ n ≤ 9223372036854775807
def U64 (n : Nat) : Prop := n < 18446744073709551616
structure PW.Ok (p : PW) : Prop where
  (g : I64 p.group) (pc : I64 p.piece) (v : U64 p.version)
structure MV.Ok (m : MV) : Prop where
  (g : I64 m.group) (pc : I64 m.piece) (d : I64 m.disk) (b : I64 m.block)
structure Rec.Ok (r : Rec) : Prop where
  (gen : U64 r.gen) (seq : U64 r.seq) (writes : ∀ p ∈ r.writes, p.Ok) (moves : ∀ m ∈ r.moves, m.Ok)

def pieceB (g p : Int) : Bool := decide (0 ≤ g ∧ g < 4096 ∧ 0 ≤ p ∧ p < 16)
def withinB (n lo hi : Int) : Bool := decide (lo ≤ n ∧ n ≤ hi)
def placeB (d b : Int) : Bool := if d = -1 then decide (b = 0) else decide (0 ≤ d ∧ d < 60 ∧ 0 ≤ b ∧ b < 65536)
def PW.vld (p : PW) : Bool := pieceB p.group p.piece
def MV.vld (m : MV) : Bool := pieceB m.group m.piece && placeB m.disk m.block
def Rec.head (r : Rec) : Bool := decide (1 ≤ r.seq ∧ r.writes.length ≤ 64 ∧ r.moves.length ≤ 64 ∧ r.note.length ≤ 256)
def Rec.vld (r : Rec) : Bool := r.head && r.writes.all PW.vld && r.moves.all MV.vld

theorem all_take_succ {α : Type} (p : α → Bool) (l : List α) (j : Nat) (x : α) (h : l[j]? = some x) : (l.take (j + 1)).all p = ((l.take j).all p && p x) := by
  rw [List.take_add_one, h]; simp [List.all_append]
theorem all_of_take_false {α : Type} (p : α → Bool) (l : List α) (j : Nat) (x : α) (h : l[j]? = some x) (hx : p x = false) : l.all p = false := by
  rw [List.all_eq_false]
  exact ⟨x, List.mem_of_getElem? h, by simp [hx]⟩

/-- The payload. -/
def PW.enc (p : PW) : List UInt8 := Go.Proofs.Ytbcmpfdhpefdbaa.enc p.group.toNat ++ Go.Proofs.Ytbcmpfdhpefdbaa.enc p.piece.toNat ++ Go.Proofs.Ytbcmpfdhpefdbaa.enc p.version ++ p.data.list
def MV.enc (m : MV) : List UInt8 := Go.Proofs.Ytbcmpfdhpefdbaa.enc m.group.toNat ++ Go.Proofs.Ytbcmpfdhpefdbaa.enc m.piece.toNat ++ Go.Proofs.Ytbcmpfdhpefdbaa.enc (zig m.disk) ++ Go.Proofs.Ytbcmpfdhpefdbaa.enc m.block.toNat
def payl (r : Rec) : List UInt8 :=
  enc r.gen ++ enc r.seq ++ enc r.writes.length ++ r.writes.flatMap PW.enc ++ enc r.moves.length ++ r.moves.flatMap MV.enc ++ enc r.note.length ++ r.note

/-- One sector, and the sectors of a record. -/
def sectorH (gen seq part parts : Nat) : List UInt8 := 82 :: (enc gen ++ enc seq ++ enc part ++ enc parts)
def sectorB (gen seq part parts : Nat) (chunk : List UInt8) : List UInt8 := sealB (sectorH gen seq part parts ++ enc chunk.length ++ chunk)
def nChunks (n : Nat) : Nat := (n + 27) / 28
def chunkAt (p : List UInt8) (i : Nat) : List UInt8 := (p.drop (28 * i)).take 28
def secAt (r : Rec) (p : List UInt8) (i : Nat) : List UInt8 := sectorB r.gen r.seq i (nChunks p.length) (chunkAt p i)
def secTo (r : Rec) (p : List UInt8) (k : Nat) : List (List UInt8) := (List.range k).map (secAt r p)
def sectors (r : Rec) : List (List UInt8) := secTo r (payl r) (nChunks (payl r).length)
theorem secTo_succ (r : Rec) (p : List UInt8) (k : Nat) : secTo r p (k + 1) = secTo r p k ++ [secAt r p k] := by simp [secTo, List.range_succ]
theorem secTo_len (r : Rec) (p : List UInt8) (k : Nat) : (secTo r p k).length = k := by simp [secTo]
/-- What Encode answers: the sectors, and the code. -/
def encP (r : Rec) : List (List UInt8) := if r.vld then sectors r else []
def encE (r : Rec) : Int := if r.vld then 0 else 1

end Go.Proofs.Ytbcmpfdhpefdbaa
