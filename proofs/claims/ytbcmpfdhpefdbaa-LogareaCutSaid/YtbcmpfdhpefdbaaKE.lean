/- The plain record: validity, payload, sectors, and reading them back. How records lie in memory; the contracts of their validity. The contracts of Valid. The contracts of the reference's Valid. The contract of 'numbers'. -/
import Derived.Test.YtbcmpfdhpefdbaaKA
import Derived.Test.YtbcmpfdhpefdbaaKD
set_option linter.unusedVariables false
set_option linter.unusedSimpArgs false
namespace Go.Proofs.Ytbcmpfdhpefdbaa

structure PW where
  (group piece : Int) (version : Nat) (data : B8)
  deriving DecidableEq
structure MV where
  (group piece disk block : Int)
  deriving DecidableEq
structure Rec where
  (gen seq : Nat) (writes : List PW) (moves : List MV) (note : List UInt8)
  deriving DecidableEq

def I64 (n : Int) : Prop := -9223372036854775808 ≤ n ∧ n ≤ 9223372036854775807
def U64 (n : Nat) : Prop := n < 18446744073709551616
structure PW.Ok (p : PW) : Prop where
  (g : I64 p.group) (pc : I64 p.piece) (v : U64 p.version)
structure MV.Ok (m : MV) : Prop where
  (g : I64 m.group) (pc : I64 m.piece) (d : I64 m.disk) (b : I64 m.block)
structure Rec.Ok (r : Rec) : Prop where
  (gen : U64 r.gen) (seq : U64 r.seq) (writes : ∀ p ∈ r.writes, p.Ok) (moves : ∀ m ∈ r.moves, m.Ok)

def pieceB (g p : Int) : Bool := decide (0 ≤ g ∧ g < 4096 ∧ 0 ≤ p ∧ p < 16)
def withinB (n lo hi : Int) : Bool := decide (lo ≤ n ∧ n ≤ hi)
def placeB (d b : Int) : Bool := if d = -1 then decide (b = 0) else decide (0 ≤ d ∧ d < 60 ∧ 0 ≤ b ∧ b < 65536)
def PW.vld (p : PW) : Bool := pieceB p.group p.piece
def MV.vld (m : MV) : Bool := pieceB m.group m.piece && placeB m.disk m.block
def Rec.head (r : Rec) : Bool := decide (1 ≤ r.seq ∧ r.writes.length ≤ 64 ∧ r.moves.length ≤ 64 ∧ r.note.length ≤ 256)
def Rec.vld (r : Rec) : Bool := r.head && r.writes.all PW.vld && r.moves.all MV.vld

theorem all_take_succ {α : Type} (p : α → Bool) (l : List α) (j : Nat) (x : α) (h : l[j]? = some x) : (l.take (j + 1)).all p = ((l.take j).all p && p x) := by
  rw [List.take_add_one, h]; simp [List.all_append]
theorem all_of_take_false {α : Type} (p : α → Bool) (l : List α) (j : Nat) (x : α) (h : l[j]? = some x) (hx : p x = false) : l.all p = false := by
  rw [List.all_eq_false]
  exact ⟨x, List.mem_of_getElem? h, by simp [hx]⟩

/-- The payload. -/
def PW.enc (p : PW) : List UInt8 := Go.Proofs.Ytbcmpfdhpefdbaa.enc p.group.toNat ++ Go.Proofs.Ytbcmpfdhpefdbaa.enc p.piece.toNat ++ Go.Proofs.Ytbcmpfdhpefdbaa.enc p.version ++ p.data.list
def MV.enc (m : MV) : List UInt8 := Go.Proofs.Ytbcmpfdhpefdbaa.enc m.group.toNat ++ Go.Proofs.Ytbcmpfdhpefdbaa.enc m.piece.toNat ++ Go.Proofs.Ytbcmpfdhpefdbaa.enc (zig m.disk) ++ Go.Proofs.Ytbcmpfdhpefdbaa.enc m.block.toNat
def payl (r : Rec) : List UInt8 :=
  enc r.gen ++ enc r.seq ++ enc r.writes.length ++ r.writes.flatMap PW.enc ++ enc r.moves.length ++ r.moves.flatMap MV.enc ++ enc r.note.length ++ r.note

/-- One sector, and the sectors of a record. -/
def sectorH (gen seq part parts : Nat) : List UInt8 := 82 :: (enc gen ++ enc seq ++ enc part ++ enc parts)
def sectorB (gen seq part parts : Nat) (chunk : List UInt8) : List UInt8 := sealB (sectorH gen seq part parts ++ enc chunk.length ++ chunk)
def nChunks (n : Nat) : Nat := (n + 27) / 28
def chunkAt (p : List UInt8) (i : Nat) : List UInt8 := (p.drop (28 * i)).take 28
def secAt (r : Rec) (p : List UInt8) (i : Nat) : List UInt8 := sectorB r.gen r.seq i (nChunks p.length) (chunkAt p i)
def secTo (r : Rec) (p : List UInt8) (k : Nat) : List (List UInt8) := (List.range k).map (secAt r p)
def sectors (r : Rec) : List (List UInt8) := secTo r (payl r) (nChunks (payl r).length)
theorem secTo_succ (r : Rec) (p : List UInt8) (k : Nat) : secTo r p (k + 1) = secTo r p k ++ [secAt r p k] := by simp [secTo, List.range_succ]
theorem secTo_len (r : Rec) (p : List UInt8) (k : Nat) : (secTo r p k).length = k := by simp [secTo]
/-- What Encode answers: the sectors, and the code. -/
def encP (r : Rec) : List (List UInt8) := if r.vld then sectors r else []
def encE (r : Rec) : Int := if r.vld then 0 else 1

end Go.Proofs.Ytbcmpfdhpefdbaa

namespace Go.Proofs.Ytbcmpfdhpefdbaa
open Go.RowKit

def PW.cells (p : PW) : List Value := [.int .i64 p.group, .int .i64 p.piece, .int .u64 (p.version : Int), B p.data.b0, B p.data.b1, B p.data.b2, B p.data.b3, B p.data.b4, B p.data.b5, B p.data.b6, B p.data.b7]
def MV.cells (m : MV) : List Value := [.int .i64 m.group, .int .i64 m.piece, .int .i64 m.disk, .int .i64 m.block]

/-- cell i * k + j of rows of k cells -/
theorem flat_at {α : Type} (f : α → List Value) (k : Nat) (hf : ∀ x, (f x).length = k) (l : List α) (i : Nat) (x : α) (hx : l[i]? = some x) (j : Nat) (v : Value) (hv : (f x)[j]? = some v) : (l.flatMap f)[i * k + j]? = some v := by
  induction l generalizing i with
  | nil => simp at hx
  | cons a l ih =>
    rw [List.flatMap_cons]
    cases i with
    | zero =>
      simp at hx; subst hx
      have hj : j < (f a).length := (List.getElem?_eq_some_iff.1 hv).1
      rw [Nat.zero_mul, Nat.zero_add, List.getElem?_append_left hj]; exact hv
    | succ i =>
      simp at hx
      rw [List.getElem?_append_right (by rw [hf, Nat.add_mul]; omega), hf, show (i + 1) * k + j - k = i * k + j by rw [Nat.add_mul]; omega]
      exact ih i hx

def RdW (w : World) (F : Nat → Prop) (A : Option Addr) (n : Nat) (ws : List PW) : Prop := n = ws.length ∧ Rd w F 11 A n (ws.flatMap PW.cells)
def RdM (w : World) (F : Nat → Prop) (A : Option Addr) (n : Nat) (ms : List MV) : Prop := n = ms.length ∧ Rd w F 4 A n (ms.flatMap MV.cells)
theorem RdW.at_ {w : World} {F : Nat → Prop} {A : Option Addr} {n : Nat} {ws : List PW} (h : RdW w F A n ws) {i : Nat} {p : PW} (hp : ws[i]? = some p) :
    ∃ b o, A = some ⟨b, o, none⟩ ∧ F b ∧ ∀ j v, p.cells[j]? = some v → w.cell? ⟨b, o + i * 11 + j, none⟩ = some v := by
  have hi : i < ws.length := (List.getElem?_eq_some_iff.1 hp).1
  obtain ⟨b, o, rfl, hF, hc⟩ := h.2.2 (by rw [h.1]; omega)
  exact ⟨b, o, rfl, hF, fun j v hv => by rw [Nat.add_assoc]; exact hc _ v (flat_at PW.cells 11 (fun _ => rfl) ws i p hp j v hv)⟩
theorem RdM.at_ {w : World} {F : Nat → Prop} {A : Option Addr} {n : Nat} {ms : List MV} (h : RdM w F A n ms) {i : Nat} {p : MV} (hp : ms[i]? = some p) :
    ∃ b o, A = some ⟨b, o, none⟩ ∧ F b ∧ ∀ j v, p.cells[j]? = some v → w.cell? ⟨b, o + i * 4 + j, none⟩ = some v := by
  have hi : i < ms.length := (List.getElem?_eq_some_iff.1 hp).1
  obtain ⟨b, o, rfl, hF, hc⟩ := h.2.2 (by rw [h.1]; omega)
  exact ⟨b, o, rfl, hF, fun j v hv => by rw [Nat.add_assoc]; exact hc _ v (flat_at MV.cells 4 (fun _ => rfl) ms i p hp j v hv)⟩
theorem RdW.keep {w w' : World} {F : Nat → Prop} {A : Option Addr} {n : Nat} {ws : List PW} (h : RdW w F A n ws) (hk : Kp F w w') : RdW w' F A n ws := ⟨h.1, h.2.keep hk⟩
theorem RdM.keep {w w' : World} {F : Nat → Prop} {A : Option Addr} {n : Nat} {ws : List MV} (h : RdM w F A n ws) (hk : Kp F w w') : RdM w' F A n ws := ⟨h.1, h.2.keep hk⟩

/-- The record r lies in memory: its slices are these. -/
structure RecIn (w : World) (F : Nat → Prop) (r : Rec) (Aw : Option Addr) (nw cw : Nat) (Am : Option Addr) (nm cm : Nat) (An : Option Addr) (nn cn : Nat) : Prop where
  (ok : r.Ok) (wr : RdW w F Aw nw r.writes) (mv : RdM w F Am nm r.moves) (nt : RdB w F An nn r.note)
  (lw : nw ≤ cw) (lm : nm ≤ cm) (ln : nn ≤ cn) (xw : cw ≤ maxLen) (xm : cm ≤ maxLen) (xn : cn ≤ maxLen)
theorem RecIn.keep {w w' : World} {F : Nat → Prop} {r : Rec} {Aw Am An : Option Addr} {nw cw nm cm nn cn : Nat} (h : RecIn w F r Aw nw cw Am nm cm An nn cn) (hk : Kp F w w') : RecIn w' F r Aw nw cw Am nm cm An nn cn :=
  { h with wr := h.wr.keep hk, mv := h.mv.keep hk, nt := h.nt.keep hk }
/-- Its five cells. -/
def recCells (r : Rec) (Aw : Option Addr) (nw cw : Nat) (Am : Option Addr) (nm cm : Nat) (An : Option Addr) (nn cn : Nat) : Array Value :=
  #[.int .u64 (r.gen : Int), .int .u64 (r.seq : Int), .slice Aw nw cw, .slice Am nm cm, .slice An nn cn]

set_option maxRecDepth 100000 in
set_option maxHeartbeats 400000 in
theorem piece_any (g p : Int) (w : World) :
    Calls Try.prog 54 #[.int .i64 g, .int .i64 p] w fun e w' => e = .returned (.bool (pieceB g p)) ∧ w = w' := by
  have hfin : ∀ b : Bool, b = pieceB g p → (Ending.returned (.bool b) = .returned (.bool (pieceB g p))) := fun b h => by rw [h]
  have hfin := hid hfin
  by_cases h1 : 0 ≤ g
  · by_cases h2 : g < 4096
    · by_cases h3 : 0 ≤ p
      · by_cases h4 : p < 16
        · go_enter Try.func54, Try.ntmps54
          go_wp2
          go_ret
          exact ⟨hfin.out _ (by simp [pieceB, h1, h2, h3, h4]), rfl⟩
        · go_enter Try.func54, Try.ntmps54
          go_wp2
          go_ret
          exact ⟨hfin.out _ (by simp [pieceB]; omega), rfl⟩
      · go_enter Try.func54, Try.ntmps54
        go_wp2
        go_ret
        exact ⟨hfin.out _ (by simp [pieceB]; omega), rfl⟩
    · go_enter Try.func54, Try.ntmps54
      go_wp2
      go_ret
      exact ⟨hfin.out _ (by simp [pieceB]; omega), rfl⟩
  · go_enter Try.func54, Try.ntmps54
    go_wp2
    go_ret
    exact ⟨hfin.out _ (by simp [pieceB]; omega), rfl⟩

set_option maxRecDepth 100000 in
set_option maxHeartbeats 400000 in
theorem within_any (n lo hi : Int) (w : World) :
    Calls Try.prog 56 #[.int .i64 n, .int .i64 lo, .int .i64 hi] w fun e w' => e = .returned (.bool (withinB n lo hi)) ∧ w = w' := by
  have hfin := hid (show ∀ b : Bool, b = withinB n lo hi → (Ending.returned (.bool b) = .returned (.bool (withinB n lo hi))) from fun b h => by rw [h])
  by_cases h1 : lo ≤ n
  · by_cases h2 : n ≤ hi
    · go_enter Try.func56, Try.ntmps56
      go_wp2
      go_ret
      exact ⟨hfin.out _ (by simp [withinB, h1, h2]), rfl⟩
    · go_enter Try.func56, Try.ntmps56
      go_wp2
      go_ret
      exact ⟨hfin.out _ (by simp [withinB]; omega), rfl⟩
  · go_enter Try.func56, Try.ntmps56
    go_wp2
    go_ret
    exact ⟨hfin.out _ (by simp [withinB]; omega), rfl⟩

set_option maxRecDepth 100000 in
set_option maxHeartbeats 400000 in
theorem place_any (d b : Int) (w : World) :
    Calls Try.prog 55 #[.agg #[.int .i64 d, .int .i64 b]] w fun e w' => e = .returned (.bool (placeB d b)) ∧ Below w.heap.size w w' := by
  have hfin := hid (show ∀ c : Bool, c = placeB d b → (Ending.returned (.bool c) = .returned (.bool (placeB d b))) from fun b h => by rw [h])
  have hbel : ∀ o, Below w.heap.size w (w.alloc o) := fun o => (Below.refl _ _).alloc (Nat.le_refl _) _
  have hbel := hid hbel
  by_cases h0 : d = -1
  · subst h0
    by_cases h1 : b = 0
    · subst h1
      go_enter Try.func55, Try.ntmps55
      go_wp2
      go_ret
      exact ⟨hfin.out _ (by simp [placeB]), hbel.out _⟩
    · have hb : (b == 0) = false := by simpa using h1
      go_enter Try.func55, Try.ntmps55
      go_wp2
      go_ret
      exact ⟨hfin.out _ (by simp [placeB, h1]), hbel.out _⟩
  · have hd : (d == -1) = false := by simpa using h0
    by_cases h1 : 0 ≤ d
    · by_cases h2 : d < 60
      · by_cases h3 : 0 ≤ b
        · by_cases h4 : b < 65536
          · go_enter Try.func55, Try.ntmps55
            go_wp2
            go_ret
            exact ⟨hfin.out _ (by simp [placeB, h0, h1, h2, h3, h4]), hbel.out _⟩
          · go_enter Try.func55, Try.ntmps55
            go_wp2
            go_ret
            exact ⟨hfin.out _ (by simp [placeB, h0]; omega), hbel.out _⟩
        · go_enter Try.func55, Try.ntmps55
          go_wp2
          go_ret
          exact ⟨hfin.out _ (by simp [placeB, h0]; omega), hbel.out _⟩
      · go_enter Try.func55, Try.ntmps55
        go_wp2
        go_ret
        exact ⟨hfin.out _ (by simp [placeB, h0]; omega), hbel.out _⟩
    · go_enter Try.func55, Try.ntmps55
      go_wp2
      go_ret
      exact ⟨hfin.out _ (by simp [placeB, h0]; omega), hbel.out _⟩

end Go.Proofs.Ytbcmpfdhpefdbaa

namespace Go.Proofs.Ytbcmpfdhpefdbaa
open Go.RowKit

theorem info_pw : (Try.prog.info? 77).map (·.size) = some 11 := by kernel_rfl
theorem info_mv : (Try.prog.info? 82).map (·.size) = some 4 := by kernel_rfl

def ValidPost (w : World) (r : Rec) (e : Ending) (w' : World) : Prop := e = .returned (.bool r.vld) ∧ Below w.heap.size w w'
theorem Rec.vld_of {r : Rec} (h : r.head = true) (hw : r.writes.all PW.vld = true) (hm : r.moves.all MV.vld = true) : r.vld = true := by simp [Rec.vld, h, hw, hm]

set_option maxRecDepth 100000 in
set_option maxHeartbeats 400000 in
theorem valid_bad (F : Nat → Prop) (r : Rec) (Aw : Option Addr) (nw cw : Nat) (Am : Option Addr) (nm cm : Nat) (An : Option Addr) (nn cn : Nat) (w : World) (h : RecIn w F r Aw nw cw Am nm cm An nn cn) (hb : r.head = false) :
    Calls Try.prog 21 #[.agg (recCells r Aw nw cw Am nm cm An nn cn)] w (ValidPost w r) := by
  have hfin := hid (show ∀ o, ValidPost w r (.returned (.bool false)) (w.alloc o) from fun o => ⟨by rw [show r.vld = false by simp [Rec.vld, hb]], (Below.refl _ _).alloc (Nat.le_refl _) _⟩)
  have hw := h.wr.1
  have hm := h.mv.1
  have hn := h.nt.1
  have hsq := h.ok.seq
  unfold Rec.head at hb
  rw [← hw, ← hm, ← hn, decide_eq_false_iff_not] at hb
  unfold U64 at hsq
  unfold recCells
  generalize r.gen = rg at *
  generalize r.seq = rs at *
  clear hw hm hn h
  go_enter Try.func21, Try.ntmps21
  go_wp2_with fail
  all_goals (go_ret; exact hfin.out _)

def zPW : Array Value := #[.int .i64 0, .int .i64 0, .int .u64 0, .int .u8 0, .int .u8 0, .int .u8 0, .int .u8 0, .int .u8 0, .int .u8 0, .int .u8 0, .int .u8 0]

set_option maxRecDepth 100000 in
set_option maxHeartbeats 1000000 in
theorem valid_good (F : Nat → Prop) (r : Rec) (Aw : Option Addr) (nw cw : Nat) (Am : Option Addr) (nm cm : Nat) (An : Option Addr) (nn cn : Nat) (w : World) (h : RecIn w F r Aw nw cw Am nm cm An nn cn) (hF : ∀ k, F k → k < w.heap.size) (hb : r.head = true) :
    Calls Try.prog 21 #[.agg (recCells r Aw nw cw Am nm cm An nn cn)] w (ValidPost w r) := by
  have hw := h.wr.1
  have hm := h.mv.1
  have hn := h.nt.1
  have hsq := h.ok.seq
  have hb' := hb
  unfold Rec.head at hb'
  rw [← hw, ← hm, ← hn, decide_eq_true_eq] at hb'
  obtain ⟨hb1, hb2, hb3, hb4⟩ := hb'
  unfold U64 at hsq
  have hbox : Blk (w.alloc (.cells (recCells r Aw nw cw Am nm cm An nn cn) 27)) w.heap.size 27 (recCells r Aw nw cw Am nm cm An nn cn) := Blk.new _ _ _
  have hbel0 : Below w.heap.size w (w.alloc (.cells (recCells r Aw nw cw Am nm cm An nn cn) 27)) := (Below.refl _ _).alloc (Nat.le_refl _) _
  have hfalse := hid (show ∀ w', r.vld = false → Below w.heap.size w w' → ValidPost w r (.returned (.bool false)) w' from fun w' h1 h2 => ⟨by rw [h1], h2⟩)
  have htrue := hid (show ∀ w', r.vld = true → Below w.heap.size w w' → ValidPost w r (.returned (.bool true)) w' from fun w' h1 h2 => ⟨by rw [h1], h2⟩)
  have hw' := hid hw
  have hm' := hid hm
  clear hw hm hn
  unfold recCells at hbox hbel0
  unfold recCells
  generalize hrs : r.seq = rs at *
  clear hrs
  go_enter Try.func21, Try.ntmps21
  go_wp2_with fail
  go_loopw [31] (fun i wr => ∃ j : Nat, i = .int .i64 (j : Int) ∧ j ≤ nw ∧ Hid ((r.writes.take j).all PW.vld = true) ∧ Blk wr w.heap.size 27 #[.int .u64 (r.gen : Int), .int .u64 (rs : Int), .slice Aw nw cw, .slice Am nm cm, .slice An nn cn] ∧ Below w.heap.size w wr) (fun i _ => nw - (intOf i).toNat)
  case atStart => exact ⟨0, rfl, by omega, rfl, hbox, hbel0⟩
  case round =>
    clear hbox hbel0
    obtain ⟨j, rfl, hj, hall, hbx, hbel⟩ := hrel
    by_cases hjn : j < nw
    · obtain ⟨p, hp⟩ : ∃ p, r.writes[j]? = some p := ⟨r.writes[j]'(by rw [← hw'.out]; exact hjn), List.getElem?_eq_getElem _⟩
      obtain ⟨b, o, rfl, hFb, hc⟩ := (h.wr.keep (Kp.of_below hbel hF)).at_ hp
      have hc' := hid hc
      have hp' := hid hp
      clear hc hp
      cases hv : p.vld with
      | true =>
        have hv' : pieceB p.group p.piece = true := hv
        have hnext := hid (show (r.writes.take (j + 1)).all PW.vld = true by rw [all_take_succ _ _ _ _ hp'.out, hall.out, hv]; rfl)
        clear hv
        go_wp2_with (first | (refine wpList_ldAt rfl 77 _ rfl b (o + j * 11) p.cells _ rfl hc'.out Try.underlying77 rfl info_pw ?_) | (refine wpList_stBlk rfl 77 _ _ rfl wr.heap.size 77 zPW p.cells.toArray (Blk.new _ _ _) rfl rfl info_pw rfl rfl ?_; intro w2 hb2 hg2; have c0 : w2.cell? ⟨wr.heap.size, 0, none⟩ = some (.int .i64 p.group) := hb2.cell 0; have c1 : w2.cell? ⟨wr.heap.size, 1, none⟩ = some (.int .i64 p.piece) := hb2.cell 1) | (go_at_call 54; refine (piece_any _ _ _).mono ?_; rintro e w' ⟨rfl, rfl⟩))
        go_roundw
        case rel =>
          have hb3 : Below w.heap.size w w2 := (hbel.alloc hbel.size _).grown hg2 (by simp; have := hbel.size; omega) (by intro k hk; injection hk with hk; have := hbel.size; omega)
          exact ⟨j + 1, by go_num, by omega, hnext, (hbx.alloc _).grown hg2 (by intro e; injection e with e; have := hbx.lt; omega), hb3⟩
        case measure => simp [intOf]; omega
      | false =>
        have hv' : pieceB p.group p.piece = false := hv
        have hbad := hid (show r.vld = false by simp [Rec.vld, all_of_take_false PW.vld _ _ _ hp'.out hv])
        clear hv
        go_wp2_with (first | (refine wpList_ldAt rfl 77 _ rfl b (o + j * 11) p.cells _ rfl hc'.out Try.underlying77 rfl info_pw ?_) | (refine wpList_stBlk rfl 77 _ _ rfl wr.heap.size 77 zPW p.cells.toArray (Blk.new _ _ _) rfl rfl info_pw rfl rfl ?_; intro w2 hb2 hg2; have c0 : w2.cell? ⟨wr.heap.size, 0, none⟩ = some (.int .i64 p.group) := hb2.cell 0; have c1 : w2.cell? ⟨wr.heap.size, 1, none⟩ = some (.int .i64 p.piece) := hb2.cell 1) | (go_at_call 54; refine (piece_any _ _ _).mono ?_; rintro e w' ⟨rfl, rfl⟩))
        go_ret
        have hb3 : Below w.heap.size w w2 := (hbel.alloc hbel.size _).grown hg2 (by simp; have := hbel.size; omega) (by intro k hk; injection hk with hk; have := hbel.size; omega)
        exact hfalse.out _ hbad.out hb3
    · have hjw : j = nw := by omega
      have hallw := hid (show r.writes.all PW.vld = true by rw [← hall.out, List.take_of_length_le (by rw [← hw'.out]; omega)])
      clear hall
      have hbx3 := hbx.cell 3
      go_wp2_with fail
      go_loopw [45] (fun i wr => ∃ j : Nat, i = .int .i64 (j : Int) ∧ j ≤ nm ∧ Hid ((r.moves.take j).all MV.vld = true) ∧ Below w.heap.size w wr) (fun i _ => nm - (intOf i).toNat)
      case atStart => exact ⟨0, rfl, by omega, rfl, hbel⟩
      case round =>
        clear hbx hbx3 hbel
        clear hjw hjn hj
        obtain ⟨j, rfl, hj, hall, hbel⟩ := hrel
        by_cases hjn : j < nm
        · obtain ⟨m, hp⟩ : ∃ m, r.moves[j]? = some m := ⟨r.moves[j]'(by rw [← hm'.out]; exact hjn), List.getElem?_eq_getElem _⟩
          obtain ⟨b, o, rfl, hFb, hc⟩ := (h.mv.keep (Kp.of_below hbel hF)).at_ hp
          have hc' := hid hc
          have hp' := hid hp
          clear hc hp
          have hb3 := hid (show ∀ w2, (wr.alloc (.cells #[.int .i64 0, .int .i64 0, .int .i64 0, .int .i64 0] 82)).grownBy w2 (some wr.heap.size) → Below w.heap.size w w2 from fun w2 hg2 => (hbel.alloc hbel.size _).grown hg2 (by simp; have := hbel.size; omega) (by intro k hk; injection hk with hk; have := hbel.size; omega))
          cases hv : pieceB m.group m.piece with
          | false =>
            have hbad := hid (show r.vld = false by simp [Rec.vld, all_of_take_false MV.vld _ _ _ hp'.out (by simp [MV.vld, hv])])
            go_wp2_with (first | (refine wpList_ldAt rfl 82 _ rfl b (o + j * 4) m.cells _ rfl hc'.out Try.underlying82 rfl info_mv ?_) | (refine wpList_stBlk rfl 82 _ _ rfl wr.heap.size 82 #[.int .i64 0, .int .i64 0, .int .i64 0, .int .i64 0] m.cells.toArray (Blk.new _ _ _) rfl rfl info_mv rfl rfl ?_; intro w2 hb2 hg2; have c0 : w2.cell? ⟨wr.heap.size, 0, none⟩ = some (.int .i64 m.group) := hb2.cell 0; have c1 : w2.cell? ⟨wr.heap.size, 1, none⟩ = some (.int .i64 m.piece) := hb2.cell 1; have c2 : w2.cell? ⟨wr.heap.size, 2, none⟩ = some (.int .i64 m.disk) := hb2.cell 2; have c3 : w2.cell? ⟨wr.heap.size, 3, none⟩ = some (.int .i64 m.block) := hb2.cell 3) | (go_at_call 54; refine (piece_any _ _ _).mono ?_; rintro e w' ⟨rfl, rfl⟩) | (go_at_call 55; refine (place_any _ _ _).mono ?_; rintro e w3 ⟨rfl, hb4⟩))
            go_ret
            exact hfalse.out _ hbad.out (hb3.out _ hg2)
          | true =>
            cases hv2 : placeB m.disk m.block with
            | false =>
              have hbad := hid (show r.vld = false by simp [Rec.vld, all_of_take_false MV.vld _ _ _ hp'.out (by simp [MV.vld, hv2])])
              go_wp2_with (first | (refine wpList_ldAt rfl 82 _ rfl b (o + j * 4) m.cells _ rfl hc'.out Try.underlying82 rfl info_mv ?_) | (refine wpList_stBlk rfl 82 _ _ rfl wr.heap.size 82 #[.int .i64 0, .int .i64 0, .int .i64 0, .int .i64 0] m.cells.toArray (Blk.new _ _ _) rfl rfl info_mv rfl rfl ?_; intro w2 hb2 hg2; have c0 : w2.cell? ⟨wr.heap.size, 0, none⟩ = some (.int .i64 m.group) := hb2.cell 0; have c1 : w2.cell? ⟨wr.heap.size, 1, none⟩ = some (.int .i64 m.piece) := hb2.cell 1; have c2 : w2.cell? ⟨wr.heap.size, 2, none⟩ = some (.int .i64 m.disk) := hb2.cell 2; have c3 : w2.cell? ⟨wr.heap.size, 3, none⟩ = some (.int .i64 m.block) := hb2.cell 3) | (go_at_call 54; refine (piece_any _ _ _).mono ?_; rintro e w' ⟨rfl, rfl⟩) | (go_at_call 55; refine (place_any _ _ _).mono ?_; rintro e w3 ⟨rfl, hb4⟩))
              go_ret
              exact hfalse.out _ hbad.out ((hb3.out _ hg2).trans (hb4.mono (hb3.out _ hg2).size))
            | true =>
              have hnext := hid (show (r.moves.take (j + 1)).all MV.vld = true by rw [all_take_succ _ _ _ _ hp'.out, hall.out]; simp [MV.vld, hv, hv2])
              go_wp2_with (first | (refine wpList_ldAt rfl 82 _ rfl b (o + j * 4) m.cells _ rfl hc'.out Try.underlying82 rfl info_mv ?_) | (refine wpList_stBlk rfl 82 _ _ rfl wr.heap.size 82 #[.int .i64 0, .int .i64 0, .int .i64 0, .int .i64 0] m.cells.toArray (Blk.new _ _ _) rfl rfl info_mv rfl rfl ?_; intro w2 hb2 hg2; have c0 : w2.cell? ⟨wr.heap.size, 0, none⟩ = some (.int .i64 m.group) := hb2.cell 0; have c1 : w2.cell? ⟨wr.heap.size, 1, none⟩ = some (.int .i64 m.piece) := hb2.cell 1; have c2 : w2.cell? ⟨wr.heap.size, 2, none⟩ = some (.int .i64 m.disk) := hb2.cell 2; have c3 : w2.cell? ⟨wr.heap.size, 3, none⟩ = some (.int .i64 m.block) := hb2.cell 3) | (go_at_call 54; refine (piece_any _ _ _).mono ?_; rintro e w' ⟨rfl, rfl⟩) | (go_at_call 55; refine (place_any _ _ _).mono ?_; rintro e w3 ⟨rfl, hb4⟩))
              go_roundw
              case rel => exact ⟨j + 1, by go_num, by omega, hnext, (hb3.out _ hg2).trans (hb4.mono (hb3.out _ hg2).size)⟩
              case measure => simp [intOf]; omega
        · have hall2 := hid (show r.moves.all MV.vld = true by rw [← hall.out, List.take_of_length_le (by rw [← hm'.out]; omega)])
          clear hall
          go_wp2
          go_ret
          exact htrue.out _ (Rec.vld_of hb hallw.out hall2.out) hbel

theorem valid_any (F : Nat → Prop) (r : Rec) (Aw : Option Addr) (nw cw : Nat) (Am : Option Addr) (nm cm : Nat) (An : Option Addr) (nn cn : Nat) (w : World) (h : RecIn w F r Aw nw cw Am nm cm An nn cn) (hF : ∀ k, F k → k < w.heap.size) :
    Calls Try.prog 21 #[.agg (recCells r Aw nw cw Am nm cm An nn cn)] w (ValidPost w r) := by
  cases hb : r.head with
  | false => exact valid_bad F r Aw nw cw Am nm cm An nn cn w h hb
  | true => exact valid_good F r Aw nw cw Am nm cm An nn cn w h hF hb

end Go.Proofs.Ytbcmpfdhpefdbaa

namespace Go.Proofs.Ytbcmpfdhpefdbaa
open Go.RowKit

theorem piece_within (g p : Int) : pieceB g p = (withinB g 0 4095 && withinB p 0 15) := by
  unfold pieceB withinB
  rw [Bool.eq_iff_iff]
  simp
  omega
theorem place_within (d b : Int) : placeB d b = ((d == -1 && b == 0) || (withinB d 0 59 && withinB b 0 65535)) := by
  unfold placeB withinB
  by_cases h : d = -1
  · subst h
    rw [Bool.eq_iff_iff]
    simp
  · rw [if_neg h, Bool.eq_iff_iff]
    simp [h]
    omega

set_option maxRecDepth 100000 in
set_option maxHeartbeats 400000 in
theorem valid27_bad (F : Nat → Prop) (r : Rec) (Aw : Option Addr) (nw cw : Nat) (Am : Option Addr) (nm cm : Nat) (An : Option Addr) (nn cn : Nat) (w : World) (h : RecIn w F r Aw nw cw Am nm cm An nn cn) (hb : r.head = false) :
    Calls Try.prog 22 #[.agg (recCells r Aw nw cw Am nm cm An nn cn)] w (ValidPost w r) := by
  have hfin := hid (show ∀ o, ValidPost w r (.returned (.bool false)) (w.alloc o) from fun o => ⟨by rw [show r.vld = false by simp [Rec.vld, hb]], (Below.refl _ _).alloc (Nat.le_refl _) _⟩)
  have hw := h.wr.1
  have hm := h.mv.1
  have hn := h.nt.1
  have hsq := h.ok.seq
  unfold Rec.head at hb
  rw [← hw, ← hm, ← hn, decide_eq_false_iff_not] at hb
  unfold U64 at hsq
  unfold recCells
  generalize r.gen = rg at *
  generalize r.seq = rs at *
  clear hw hm hn h
  go_enter Try.func22, Try.ntmps22
  go_wp2_with fail
  all_goals (go_ret; exact hfin.out _)


set_option maxRecDepth 100000 in
set_option maxHeartbeats 8000000 in
theorem valid27_good (F : Nat → Prop) (r : Rec) (Aw : Option Addr) (nw cw : Nat) (Am : Option Addr) (nm cm : Nat) (An : Option Addr) (nn cn : Nat) (w : World) (h : RecIn w F r Aw nw cw Am nm cm An nn cn) (hF : ∀ k, F k → k < w.heap.size) (hb : r.head = true) :
    Calls Try.prog 22 #[.agg (recCells r Aw nw cw Am nm cm An nn cn)] w (ValidPost w r) := by
  have hw := h.wr.1
  have hm := h.mv.1
  have hn := h.nt.1
  have hsq := h.ok.seq
  have hb' := hb
  unfold Rec.head at hb'
  rw [← hw, ← hm, ← hn, decide_eq_true_eq] at hb'
  obtain ⟨hb1, hb2, hb3, hb4⟩ := hb'
  unfold U64 at hsq
  have hbox : Blk (w.alloc (.cells (recCells r Aw nw cw Am nm cm An nn cn) 27)) w.heap.size 27 (recCells r Aw nw cw Am nm cm An nn cn) := Blk.new _ _ _
  have hbel0 : Below w.heap.size w (w.alloc (.cells (recCells r Aw nw cw Am nm cm An nn cn) 27)) := (Below.refl _ _).alloc (Nat.le_refl _) _
  have hfalse := hid (show ∀ w', r.vld = false → Below w.heap.size w w' → ValidPost w r (.returned (.bool false)) w' from fun w' h1 h2 => ⟨by rw [h1], h2⟩)
  have htrue := hid (show ∀ w', r.vld = true → Below w.heap.size w w' → ValidPost w r (.returned (.bool true)) w' from fun w' h1 h2 => ⟨by rw [h1], h2⟩)
  have hw' := hid hw
  have hm' := hid hm
  clear hw hm hn
  unfold recCells at hbox hbel0
  unfold recCells
  generalize hrs : r.seq = rs at *
  clear hrs
  go_enter Try.func22, Try.ntmps22
  go_wp2_with fail
  go_loopw [3] (fun i wr => ∃ j : Nat, i = .int .i64 (j : Int) ∧ j ≤ nw ∧ Hid ((r.writes.take j).all PW.vld = true) ∧ Blk wr w.heap.size 27 #[.int .u64 (r.gen : Int), .int .u64 (rs : Int), .slice Aw nw cw, .slice Am nm cm, .slice An nn cn] ∧ Below w.heap.size w wr) (fun i _ => nw - (intOf i).toNat)
  case atStart => exact ⟨0, rfl, by omega, rfl, hbox, hbel0⟩
  case round =>
    clear hbox hbel0
    obtain ⟨j, rfl, hj, hall, hbx, hbel⟩ := hrel
    have b2 : wr.cell? ⟨w.heap.size, 2, none⟩ = some (.slice Aw nw cw) := hbx.cell 2
    by_cases hjn : j < nw
    · obtain ⟨p, hp⟩ : ∃ p, r.writes[j]? = some p := ⟨r.writes[j]'(by rw [← hw'.out]; exact hjn), List.getElem?_eq_getElem _⟩
      obtain ⟨b, o, rfl, hFb, hc⟩ := (h.wr.keep (Kp.of_below hbel hF)).at_ hp
      have c0 : wr.cell? ⟨b, o + j * 11, none⟩ = some (.int .i64 p.group) := hc 0 _ rfl
      have c1 : wr.cell? ⟨b, o + j * 11 + 1, none⟩ = some (.int .i64 p.piece) := hc 1 _ rfl
      have hp' := hid hp
      clear hc hp
      have hpv : p.vld = (withinB p.group 0 4095 && withinB p.piece 0 15) := piece_within _ _
      have hpv := hid hpv
      cases hv1 : withinB p.group 0 4095 with
      | false =>
        have hbad := hid (show r.vld = false by simp [Rec.vld, all_of_take_false PW.vld _ _ _ hp'.out (by rw [hpv.out, hv1]; rfl)])
        go_wp2_with (go_at_call 56; refine (within_any _ _ _ _).mono ?_; rintro e w' ⟨rfl, rfl⟩)
        go_ret
        exact hfalse.out _ hbad.out hbel
      | true =>
        cases hv2 : withinB p.piece 0 15 with
        | false =>
          have hbad := hid (show r.vld = false by simp [Rec.vld, all_of_take_false PW.vld _ _ _ hp'.out (by rw [hpv.out, hv1, hv2]; rfl)])
          go_wp2_with (go_at_call 56; refine (within_any _ _ _ _).mono ?_; rintro e w' ⟨rfl, rfl⟩)
          go_ret
          exact hfalse.out _ hbad.out hbel
        | true =>
          have hnext := hid (show (r.writes.take (j + 1)).all PW.vld = true by rw [all_take_succ _ _ _ _ hp'.out, hall.out, hpv.out, hv1, hv2]; rfl)
          go_wp2_with (go_at_call 56; refine (within_any _ _ _ _).mono ?_; rintro e w' ⟨rfl, rfl⟩)
          go_roundw
          case rel => exact ⟨j + 1, by go_num, by omega, hnext, hbx, hbel⟩
          case measure => simp [intOf]; omega
    · have hjw : j = nw := by omega
      have hallw := hid (show r.writes.all PW.vld = true by rw [← hall.out, List.take_of_length_le (by rw [← hw'.out]; omega)])
      clear hall
      go_wp2_with fail
      go_loopw [4] (fun i wr => ∃ j : Nat, i = .int .i64 (j : Int) ∧ j ≤ nm ∧ Hid ((r.moves.take j).all MV.vld = true) ∧ Blk wr w.heap.size 27 #[.int .u64 (r.gen : Int), .int .u64 (rs : Int), .slice Aw nw cw, .slice Am nm cm, .slice An nn cn] ∧ Below w.heap.size w wr) (fun i _ => nm - (intOf i).toNat)
      case atStart => exact ⟨0, rfl, by omega, rfl, hbx, hbel⟩
      case round =>
        clear hbx hbel b2
        clear hjw hjn hj
        obtain ⟨j, rfl, hj, hall, hbx, hbel⟩ := hrel
        have b3 : wr.cell? ⟨w.heap.size, 3, none⟩ = some (.slice Am nm cm) := hbx.cell 3
        by_cases hjn : j < nm
        · obtain ⟨m, hp⟩ : ∃ m, r.moves[j]? = some m := ⟨r.moves[j]'(by rw [← hm'.out]; exact hjn), List.getElem?_eq_getElem _⟩
          obtain ⟨b, o, rfl, hFb, hc⟩ := (h.mv.keep (Kp.of_below hbel hF)).at_ hp
          have hc' := hid hc
          have hp' := hid hp
          clear hc hp
          have hb3 := hid (show ∀ w2, (wr.alloc (.cells #[.int .i64 0, .int .i64 0, .int .i64 0, .int .i64 0] 82)).grownBy w2 (some wr.heap.size) → Below w.heap.size w w2 ∧ Blk w2 w.heap.size 27 #[.int .u64 (r.gen : Int), .int .u64 (rs : Int), .slice Aw nw cw, .slice (some ⟨b, o, none⟩) nm cm, .slice An nn cn] from fun w2 hg2 => ⟨(hbel.alloc hbel.size _).grown hg2 (by simp; have := hbel.size; omega) (by intro k hk; injection hk with hk; have := hbel.size; omega), (hbx.alloc _).grown hg2 (by intro e; injection e with e; have := hbx.lt; omega)⟩)
          have hmv : m.vld = ((withinB m.group 0 4095 && withinB m.piece 0 15) && ((m.disk == -1 && m.block == 0) || (withinB m.disk 0 59 && withinB m.block 0 65535))) := by unfold MV.vld; rw [piece_within, place_within]
          have hmv' := hid hmv
          clear hmv
          have hmf := hid (show m.vld = false → r.vld = false from fun e => by simp [Rec.vld, all_of_take_false MV.vld _ _ _ hp'.out e])
          have hmt := hid (show m.vld = true → (r.moves.take (j + 1)).all MV.vld = true from fun e => by rw [all_take_succ _ _ _ _ hp'.out, hall.out, e]; rfl)
          cases e5 : m.disk == -1 with
          | true =>
            cases e6 : m.block == 0 with
            | true =>
              go_wp2_with (first | (refine wpList_ldAt rfl 82 _ rfl b (o + j * 4) m.cells _ rfl hc'.out Try.underlying82 rfl info_mv ?_) | (refine wpList_stBlk rfl 82 _ _ rfl wr.heap.size 82 #[.int .i64 0, .int .i64 0, .int .i64 0, .int .i64 0] m.cells.toArray (Blk.new _ _ _) rfl rfl info_mv rfl rfl ?_; intro w2 hb2 hg2; have c0 : w2.cell? ⟨wr.heap.size, 0, none⟩ = some (.int .i64 m.group) := hb2.cell 0; have c1 : w2.cell? ⟨wr.heap.size, 1, none⟩ = some (.int .i64 m.piece) := hb2.cell 1; have c2 : w2.cell? ⟨wr.heap.size, 2, none⟩ = some (.int .i64 m.disk) := hb2.cell 2; have c3 : w2.cell? ⟨wr.heap.size, 3, none⟩ = some (.int .i64 m.block) := hb2.cell 3))
              cases e1 : withinB m.group 0 4095 with
              | true =>
                cases e2 : withinB m.piece 0 15 with
                | true =>
                  have hnext := hid (hmt.out (by rw [hmv'.out]; simp [e5, e6, e1, e2]))
                  go_wp2_with (go_at_call 56; refine (within_any _ _ _ _).mono ?_; rintro e w' ⟨rfl, rfl⟩)
                  go_roundw
                  case rel => exact ⟨j + 1, by go_num, by omega, hnext, (hb3.out _ hg2).2, (hb3.out _ hg2).1⟩
                  case measure => simp [intOf]; omega
                | false =>
                  have hbad := hid (hmf.out (by rw [hmv'.out]; simp [e5, e6, e1, e2]))
                  go_wp2_with (go_at_call 56; refine (within_any _ _ _ _).mono ?_; rintro e w' ⟨rfl, rfl⟩)
                  go_ret
                  exact hfalse.out _ hbad.out (hb3.out _ hg2).1
              | false =>
                have hbad := hid (hmf.out (by rw [hmv'.out]; simp [e5, e6, e1]))
                go_wp2_with (go_at_call 56; refine (within_any _ _ _ _).mono ?_; rintro e w' ⟨rfl, rfl⟩)
                go_ret
                exact hfalse.out _ hbad.out (hb3.out _ hg2).1
            | false =>
              go_wp2_with (first | (refine wpList_ldAt rfl 82 _ rfl b (o + j * 4) m.cells _ rfl hc'.out Try.underlying82 rfl info_mv ?_) | (refine wpList_stBlk rfl 82 _ _ rfl wr.heap.size 82 #[.int .i64 0, .int .i64 0, .int .i64 0, .int .i64 0] m.cells.toArray (Blk.new _ _ _) rfl rfl info_mv rfl rfl ?_; intro w2 hb2 hg2; have c0 : w2.cell? ⟨wr.heap.size, 0, none⟩ = some (.int .i64 m.group) := hb2.cell 0; have c1 : w2.cell? ⟨wr.heap.size, 1, none⟩ = some (.int .i64 m.piece) := hb2.cell 1; have c2 : w2.cell? ⟨wr.heap.size, 2, none⟩ = some (.int .i64 m.disk) := hb2.cell 2; have c3 : w2.cell? ⟨wr.heap.size, 3, none⟩ = some (.int .i64 m.block) := hb2.cell 3))
              cases e1 : withinB m.group 0 4095 with
              | true =>
                cases e2 : withinB m.piece 0 15 with
                | true =>
                  cases e3 : withinB m.disk 0 59 with
                  | true =>
                    cases e4 : withinB m.block 0 65535 with
                    | true =>
                      have hnext := hid (hmt.out (by rw [hmv'.out]; simp [e5, e6, e1, e2, e3, e4]))
                      go_wp2_with (go_at_call 56; refine (within_any _ _ _ _).mono ?_; rintro e w' ⟨rfl, rfl⟩)
                      go_roundw
                      case rel => exact ⟨j + 1, by go_num, by omega, hnext, (hb3.out _ hg2).2, (hb3.out _ hg2).1⟩
                      case measure => simp [intOf]; omega
                    | false =>
                      have hbad := hid (hmf.out (by rw [hmv'.out]; simp [e5, e6, e1, e2, e3, e4]))
                      go_wp2_with (go_at_call 56; refine (within_any _ _ _ _).mono ?_; rintro e w' ⟨rfl, rfl⟩)
                      go_ret
                      exact hfalse.out _ hbad.out (hb3.out _ hg2).1
                  | false =>
                    have hbad := hid (hmf.out (by rw [hmv'.out]; simp [e5, e6, e1, e2, e3]))
                    go_wp2_with (go_at_call 56; refine (within_any _ _ _ _).mono ?_; rintro e w' ⟨rfl, rfl⟩)
                    go_ret
                    exact hfalse.out _ hbad.out (hb3.out _ hg2).1
                | false =>
                  have hbad := hid (hmf.out (by rw [hmv'.out]; simp [e5, e6, e1, e2]))
                  go_wp2_with (go_at_call 56; refine (within_any _ _ _ _).mono ?_; rintro e w' ⟨rfl, rfl⟩)
                  go_ret
                  exact hfalse.out _ hbad.out (hb3.out _ hg2).1
              | false =>
                have hbad := hid (hmf.out (by rw [hmv'.out]; simp [e5, e6, e1]))
                go_wp2_with (go_at_call 56; refine (within_any _ _ _ _).mono ?_; rintro e w' ⟨rfl, rfl⟩)
                go_ret
                exact hfalse.out _ hbad.out (hb3.out _ hg2).1
          | false =>
            go_wp2_with (first | (refine wpList_ldAt rfl 82 _ rfl b (o + j * 4) m.cells _ rfl hc'.out Try.underlying82 rfl info_mv ?_) | (refine wpList_stBlk rfl 82 _ _ rfl wr.heap.size 82 #[.int .i64 0, .int .i64 0, .int .i64 0, .int .i64 0] m.cells.toArray (Blk.new _ _ _) rfl rfl info_mv rfl rfl ?_; intro w2 hb2 hg2; have c0 : w2.cell? ⟨wr.heap.size, 0, none⟩ = some (.int .i64 m.group) := hb2.cell 0; have c1 : w2.cell? ⟨wr.heap.size, 1, none⟩ = some (.int .i64 m.piece) := hb2.cell 1; have c2 : w2.cell? ⟨wr.heap.size, 2, none⟩ = some (.int .i64 m.disk) := hb2.cell 2; have c3 : w2.cell? ⟨wr.heap.size, 3, none⟩ = some (.int .i64 m.block) := hb2.cell 3))
            cases e1 : withinB m.group 0 4095 with
            | true =>
              cases e2 : withinB m.piece 0 15 with
              | true =>
                cases e3 : withinB m.disk 0 59 with
                | true =>
                  cases e4 : withinB m.block 0 65535 with
                  | true =>
                    have hnext := hid (hmt.out (by rw [hmv'.out]; simp [e5, e1, e2, e3, e4]))
                    go_wp2_with (go_at_call 56; refine (within_any _ _ _ _).mono ?_; rintro e w' ⟨rfl, rfl⟩)
                    go_roundw
                    case rel => exact ⟨j + 1, by go_num, by omega, hnext, (hb3.out _ hg2).2, (hb3.out _ hg2).1⟩
                    case measure => simp [intOf]; omega
                  | false =>
                    have hbad := hid (hmf.out (by rw [hmv'.out]; simp [e5, e1, e2, e3, e4]))
                    go_wp2_with (go_at_call 56; refine (within_any _ _ _ _).mono ?_; rintro e w' ⟨rfl, rfl⟩)
                    go_ret
                    exact hfalse.out _ hbad.out (hb3.out _ hg2).1
                | false =>
                  have hbad := hid (hmf.out (by rw [hmv'.out]; simp [e5, e1, e2, e3]))
                  go_wp2_with (go_at_call 56; refine (within_any _ _ _ _).mono ?_; rintro e w' ⟨rfl, rfl⟩)
                  go_ret
                  exact hfalse.out _ hbad.out (hb3.out _ hg2).1
              | false =>
                have hbad := hid (hmf.out (by rw [hmv'.out]; simp [e5, e1, e2]))
                go_wp2_with (go_at_call 56; refine (within_any _ _ _ _).mono ?_; rintro e w' ⟨rfl, rfl⟩)
                go_ret
                exact hfalse.out _ hbad.out (hb3.out _ hg2).1
            | false =>
              have hbad := hid (hmf.out (by rw [hmv'.out]; simp [e5, e1]))
              go_wp2_with (go_at_call 56; refine (within_any _ _ _ _).mono ?_; rintro e w' ⟨rfl, rfl⟩)
              go_ret
              exact hfalse.out _ hbad.out (hb3.out _ hg2).1
        · have hall2 := hid (show r.moves.all MV.vld = true by rw [← hall.out, List.take_of_length_le (by rw [← hm'.out]; omega)])
          clear hall
          go_wp2
          go_ret
          exact htrue.out _ (Rec.vld_of hb hallw.out hall2.out) hbel

theorem valid27_any (F : Nat → Prop) (r : Rec) (Aw : Option Addr) (nw cw : Nat) (Am : Option Addr) (nm cm : Nat) (An : Option Addr) (nn cn : Nat) (w : World) (h : RecIn w F r Aw nw cw Am nm cm An nn cn) (hF : ∀ k, F k → k < w.heap.size) :
    Calls Try.prog 22 #[.agg (recCells r Aw nw cw Am nm cm An nn cn)] w (ValidPost w r) := by
  cases hb : r.head with
  | false => exact valid27_bad F r Aw nw cw Am nm cm An nn cn w h hb
  | true => exact valid27_good F r Aw nw cw Am nm cm An nn cn w h hF hb

end Go.Proofs.Ytbcmpfdhpefdbaa

namespace Go.Proofs.Ytbcmpfdhpefdbaa
open Go.RowKit

abbrev N (n : Nat) : Value := .int .u64 (n : Int)
def RdN (w : World) (F : Nat → Prop) (A : Option Addr) (n : Nat) (ns : List Nat) : Prop := n = ns.length ∧ Rd w F 1 A n (ns.map N)

theorem encs_len (ns : List Nat) (h : ∀ n ∈ ns, n < 18446744073709551616) : (ns.flatMap enc).length ≤ 10 * ns.length := by
  induction ns with
  | nil => simp
  | cons a l ih =>
    have h1 := enc_len10 (h a (by simp))
    have h2 := ih (fun n hn => h n (by simp [hn]))
    rw [List.flatMap_cons, List.length_append, List.length_cons]
    omega

set_option maxRecDepth 100000 in
set_option maxHeartbeats 400000 in
theorem numbers_any (F : Nat → Prop) (A : Option Addr) (k c : Nat) (bs : List UInt8) (G : Nat → Prop) (A' : Option Addr) (m c' : Nat) (ns : List Nat) (w : World) (h : RdB w F A k bs) (h' : RdN w G A' m ns)
    (hl : bs.length ≤ 10000000) (hl' : m ≤ 1000) (hm0 : 0 < m) (hns : ∀ n ∈ ns, n < 18446744073709551616) (hF : ∀ k, F k → k < w.heap.size) (hG : ∀ k, G k → k < w.heap.size) :
    Calls Try.prog 51 #[.slice A k c, .slice A' m c'] w (RetB w.heap.size w (bs ++ ns.flatMap enc)) := by
  have hm := hid h'.1
  have hel := encs_len ns hns
  have hns := hid hns
  obtain ⟨b, o, rfl, hGb, hc⟩ := h'.2.2 hm0
  have hc' := hid hc
  clear hc
  go_enter Try.func51, Try.ntmps51
  go_wp2_with fail
  go_loopw [0, 9] (fun v i wr => ∃ (j : Nat) (A : Option Addr) (k c : Nat) (H : Nat → Prop), i = .int .i64 (j : Int) ∧ v = .slice A k c ∧ j ≤ m ∧ RdB wr H A k (bs ++ (ns.take j).flatMap enc) ∧ (∀ k, H k → k < wr.heap.size) ∧ Hid (0 < j → OwnB w.heap.size wr v (bs ++ (ns.take j).flatMap enc)) ∧ Below w.heap.size w wr) (fun _ i _ => m - (intOf i).toNat)
  case atStart => exact ⟨0, A, k, c, F, rfl, rfl, by omega, by simpa using h, hF, (fun h => absurd h (by omega)), Below.refl _ _⟩
  case round =>
    obtain ⟨j, A1, k1, c1, H, rfl, rfl, hj, hr, hH, hown, hbel⟩ := hrel
    by_cases hjm : j < m
    · have hx : ns[j]? = some (ns[j]'(by rw [← hm.out]; exact hjm)) := List.getElem?_eq_getElem _
      have hxl := hns.out _ (List.mem_of_getElem? hx)
      generalize ns[j]'(by rw [← hm.out]; exact hjm) = x at *
      have hcell : wr.cell? ⟨b, o + j, none⟩ = some (.int .u64 (x : Int)) := by
        rw [hbel.cell (hG b hGb)]
        exact hc'.out j _ (by rw [List.getElem?_map, hx]; rfl)
      have hnext := hid (show (ns.take (j + 1)).flatMap enc = (ns.take j).flatMap enc ++ enc x by rw [List.take_add_one, hx]; simp [List.flatMap_append])
      have hlen : (bs ++ (ns.take j).flatMap enc).length ≤ 1000000000 := by
        have := encs_len (ns.take j) (fun n hn => hns.out n (List.mem_of_mem_take hn))
        have h2 : (ns.take j).length ≤ j := List.length_take_le _ _
        rw [List.length_append]; omega
      clear hx
      have hlen := hid hlen
      go_wp2_with (go_at_call 80; refine (appendUint_any H _ _ _ _ x _ hr hlen.out hH hxl).mono ?_; rintro e w1 ⟨v1, rfl, hown1, hbel1⟩)
      go_roundw
      case rel =>
        rw [List.append_assoc, ← hnext.out] at hown1
        obtain ⟨A2, c2, rfl, _, _⟩ := hown1.form
        exact ⟨j + 1, A2, _, c2, fun k => k < w1.heap.size ∧ wr.heap.size ≤ k, by go_num, rfl, by omega, hown1.rd, (fun k hk => hk.1), hid (fun _ => hown1.lower hbel.size), hbel.trans (hbel1.mono hbel.size)⟩
      case measure => simp [intOf]; omega
    · have hjm : j = m := by omega
      subst hjm
      have hfin := hid (hown.out hm0)
      have ht := hid (show ns.take j = ns from List.take_of_length_le (by rw [← hm.out]; omega))
      go_wp2
      go_ret
      exact ⟨_, rfl, by have := hfin.out; rw [ht.out] at this; exact this, hbel⟩

theorem rdN_blk {w : World} {g : Nat} {ns : List Nat} (h : Blk w g 22 (ns.map N).toArray) : RdN w (fun k => k = g) (some ⟨g, 0, none⟩) ns.length ns :=
  ⟨rfl, by simp, fun _ => ⟨_, _, rfl, rfl, fun j u hu => by rw [Nat.zero_add, h.cell]; simpa using hu⟩⟩

theorem RetB.opened {base : Nat} {w : World} {bs : List UInt8} {e : Ending} {w' : World} (h : RetB base w bs e w') :
    ∃ A c d, e = .returned (.slice A (List.length d) c) ∧ OwnB base w' (.slice A d.length c) d ∧ Below base w w' ∧ d.length ≤ c ∧ c ≤ maxLen ∧ Hid (d = bs) := by
  obtain ⟨v, rfl, hown, hb⟩ := h
  obtain ⟨A, c, rfl, h1, h2⟩ := hown.form
  exact ⟨A, c, bs, rfl, hown, hb, h1, h2, rfl⟩

/-- the call with a fresh block of numbers -/
theorem numbers_blk (F : Nat → Prop) (A : Option Addr) (k c : Nat) (bs : List UInt8) (g m c' : Nat) (ns : List Nat) (base : Nat) (w w1 : World) (hB : Blk w1 g 22 (ns.map N).toArray) (hm : m = ns.length) (h : RdB w1 F A k bs)
    (hl : bs.length ≤ 10000000) (hl' : m ≤ 1000) (hm0 : 0 < m) (hns : ∀ n ∈ ns, n < 18446744073709551616) (hF : ∀ k, F k → k < w1.heap.size) (hbel : Below base w w1) (hbase : base ≤ w1.heap.size) :
    Calls Try.prog 51 #[.slice A k c, .slice (some ⟨g, 0, none⟩) m c'] w1 (RetB base w (bs ++ ns.flatMap enc)) := by
  subst hm
  refine (numbers_any F A k c bs (fun k => k = g) _ _ c' ns w1 h (rdN_blk hB) hl hl' hm0 hns hF (fun k hk => by rw [hk]; exact hB.lt)).mono ?_
  rintro e w2 ⟨v, rfl, hown, hb⟩
  exact ⟨v, rfl, hown.lower hbase, hbel.trans (hb.mono hbase)⟩

end Go.Proofs.Ytbcmpfdhpefdbaa
