/- How records lie in memory; the contracts of their validity. -/
import Derived.Test.YtbcmpfdhpefdbaaSeal
import Derived.Test.YtbcmpfdhpefdbaaRecP
set_option linter.unusedVariables false
set_option linter.unusedSimpArgs false
namespace Go.Proofs.Ytbcmpfdhpefdbaa
open Go.RowKit

def PW.cells (p : PW) : List Value := [.int .i64 p.group, .int .i64 p.piece, .int .u64 (p.version : Int), B p.data.b0, B p.data.b1, B p.data.b2, B p.data.b3, B p.data.b4, B p.data.b5, B p.data.b6, B p.data.b7]
def MV.cells (m : MV) : List Value := [.int .i64 m.group, .int .i64 m.piece, .int .i64 m.disk, .int .i64 m.block]

/-- cell i * k + j of rows of k cells -/
theorem flat_at {α : Type} (f : α → List Value) (k : Nat) (hf : ∀ x, (f x).length = k) (l : List α) (i : Nat) (x : α) (hx : l[i]? = some x) (j : Nat) (v : Value) (hv : (f x)[j]? = some v) : (l.flatMap f)[i * k + j]? = some v := by
  induction l generalizing i with
  | nil => simp at hx
  | cons a l ih =>
    rw [List.flatMap_cons]
    cases i with
    | zero =>
      simp at hx; subst hx
      have hj : j < (f a).length := (List.getElem?_eq_some_iff.1 hv).1
      rw [Nat.zero_mul, Nat.zero_add, List.getElem?_append_left hj]; exact hv
    | succ i =>
      simp at hx
      rw [List.getElem?_append_right (by rw [hf, Nat.add_mul]; omega), hf, show (i + 1) * k + j - k = i * k + j by rw [Nat.add_mul]; omega]
      exact ih i hx

def RdW (w : World) (F : Nat → Prop) (A : Option Addr) (n : Nat) (ws : List PW) : Prop := n = ws.length ∧ Rd w F 11 A n (ws.flatMap PW.cells)
def RdM (w : World) (F : Nat → Prop) (A : Option Addr) (n : Nat) (ms : List MV) : Prop := n = ms.length ∧ Rd w F 4 A n (ms.flatMap MV.cells)
theorem RdW.at_ {w : World} {F : Nat → Prop} {A : Option Addr} {n : Nat} {ws : List PW} (h : RdW w F A n ws) {i : Nat} {p : PW} (hp : ws[i]? = some p) :
    ∃ b o, A = some ⟨b, o, none⟩ ∧ F b ∧ ∀ j v, p.cells[j]? = some v → w.cell? ⟨b, o + i * 11 + j, none⟩ = some v := by
  have hi : i < ws.length := (List.getElem?_eq_some_iff.1 hp).1
  obtain ⟨b, o, rfl, hF, hc⟩ := h.2.2 (by rw [h.1]; omega)
  exact ⟨b, o, rfl, hF, fun j v hv => by rw [Nat.add_assoc]; exact hc _ v (flat_at PW.cells 11 (fun _ => rfl) ws i p hp j v hv)⟩
theorem RdM.at_ {w : World} {F : Nat → Prop} {A : Option Addr} {n : Nat} {ms : List MV} (h : RdM w F A n ms) {i : Nat} {p : MV} (hp : ms[i]? = some p) :
    ∃ b o, A = some ⟨b, o, none⟩ ∧ F b ∧ ∀ j v, p.cells[j]? = some v → w.cell? ⟨b, o + i * 4 + j, none⟩ = some v := by
  have hi : i < ms.length := (List.getElem?_eq_some_iff.1 hp).1
  obtain ⟨b, o, rfl, hF, hc⟩ := h.2.2 (by rw [h.1]; omega)
  exact ⟨b, o, rfl, hF, fun j v hv => by rw [Nat.add_assoc]; exact hc _ v (flat_at MV.cells 4 (fun _ => rfl) ms i p hp j v hv)⟩
theorem RdW.keep {w w' : World} {F : Nat → Prop} {A : Option Addr} {n : Nat} {ws : List PW} (h : RdW w F A n ws) (hk : Kp F w w') : RdW w' F A n ws := ⟨h.1, h.2.keep hk⟩
theorem RdM.keep {w w' : World} {F : Nat → Prop} {A : Option Addr} {n : Nat} {ws : List MV} (h : RdM w F A n ws) (hk : Kp F w w') : RdM w' F A n ws := ⟨h.1, h.2.keep hk⟩

/-- The record r lies in memory: its slices are these. -/
structure RecIn (w : World) (F : Nat → Prop) (r : Rec) (Aw : Option Addr) (nw cw : Nat) (Am : Option Addr) (nm cm : Nat) (An : Option Addr) (nn cn : Nat) : Prop where
  (ok : r.Ok) (wr : RdW w F Aw nw r.writes) (mv : RdM w F Am nm r.moves) (nt : RdB w F An nn r.note)
  (lw : nw ≤ cw) (lm : nm ≤ cm) (ln : nn ≤ cn) (xw : cw ≤ maxLen) (xm : cm ≤ maxLen) (xn : cn ≤ maxLen)
theorem RecIn.keep {w w' : World} {F : Nat → Prop} {r : Rec} {Aw Am An : Option Addr} {nw cw nm cm nn cn : Nat} (h : RecIn w F r Aw nw cw Am nm cm An nn cn) (hk : Kp F w w') : RecIn w' F r Aw nw cw Am nm cm An nn cn :=
  { h with wr := h.wr.keep hk, mv := h.mv.keep hk, nt := h.nt.keep hk }
/-- Its five cells. -/
def recCells (r : Rec) (Aw : Option Addr) (nw cw : Nat) (Am : Option Addr) (nm cm : Nat) (An : Option Addr) (nn cn : Nat) : Array Value :=
  #[.int .u64 (r.gen : Int), .int .u64 (r.seq : Int), .slice Aw nw cw, .slice Am nm cm, .slice An nn cn]

set_option maxRecDepth 100000 in
set_option maxHeartbeats 400000 in
theorem piece_any (g p : Int) (w : World) :
    Calls Try.prog 54 #[.int .i64 g, .int .i64 p] w fun e w' => e = .returned (.bool (pieceB g p)) ∧ w = w' := by
  have hfin : ∀ b : Bool, b = pieceB g p → (Ending.returned (.bool b) = .returned (.bool (pieceB g p))) := fun b h => by rw [h]
  have hfin := hid hfin
  by_cases h1 : 0 ≤ g
  · by_cases h2 : g < 4096
    · by_cases h3 : 0 ≤ p
      · by_cases h4 : p < 16
        · go_enter Try.func54, Try.ntmps54
          go_wp2
          go_ret
          exact ⟨hfin.out _ (by simp [pieceB, h1, h2, h3, h4]), rfl⟩
        · go_enter Try.func54, Try.ntmps54
          go_wp2
          go_ret
          exact ⟨hfin.out _ (by simp [pieceB]; omega), rfl⟩
      · go_enter Try.func54, Try.ntmps54
        go_wp2
        go_ret
        exact ⟨hfin.out _ (by simp [pieceB]; omega), rfl⟩
    · go_enter Try.func54, Try.ntmps54
      go_wp2
      go_ret
      exact ⟨hfin.out _ (by simp [pieceB]; omega), rfl⟩
  · go_enter Try.func54, Try.ntmps54
    go_wp2
    go_ret
    exact ⟨hfin.out _ (by simp [pieceB]; omega), rfl⟩

set_option maxRecDepth 100000 in
set_option maxHeartbeats 400000 in
theorem within_any (n lo hi : Int) (w : World) :
    Calls Try.prog 56 #[.int .i64 n, .int .i64 lo, .int .i64 hi] w fun e w' => e = .returned (.bool (withinB n lo hi)) ∧ w = w' := by
  have hfin := hid (show ∀ b : Bool, b = withinB n lo hi → (Ending.returned (.bool b) = .returned (.bool (withinB n lo hi))) from fun b h => by rw [h])
  by_cases h1 : lo ≤ n
  · by_cases h2 : n ≤ hi
    · go_enter Try.func56, Try.ntmps56
      go_wp2
      go_ret
      exact ⟨hfin.out _ (by simp [withinB, h1, h2]), rfl⟩
    · go_enter Try.func56, Try.ntmps56
      go_wp2
      go_ret
      exact ⟨hfin.out _ (by simp [withinB]; omega), rfl⟩
  · go_enter Try.func56, Try.ntmps56
    go_wp2
    go_ret
    exact ⟨hfin.out _ (by simp [withinB]; omega), rfl⟩

set_option maxRecDepth 100000 in
set_option maxHeartbeats 400000 in
theorem place_any (d b : Int) (w : World) :
    Calls Try.prog 55 #[.agg #[.int .i64 d, .int .i64 b]] w fun e w' => e = .returned (.bool (placeB d b)) ∧ Below w.heap.size w w' := by
  have hfin := hid (show ∀ c : Bool, c = placeB d b → (Ending.returned (.bool c) = .returned (.bool (placeB d b))) from fun b h => by rw [h])
  have hbel : ∀ o, Below w.heap.size w (w.alloc o) := fun o => (Below.refl _ _).alloc (Nat.le_refl _) _
  have hbel := hid hbel
  by_cases h0 : d = -1
  · subst h0
    by_cases h1 : b = 0
    · subst h1
      go_enter Try.func55, Try.ntmps55
      go_wp2
      go_ret
      exact ⟨hfin.out _ (by simp [placeB]), hbel.out _⟩
    · have hb : (b == 0) = false := by simpa using h1
      go_enter Try.func55, Try.ntmps55
      go_wp2
      go_ret
      exact ⟨hfin.out _ (by simp [placeB, h1]), hbel.out _⟩
  · have hd : (d == -1) = false := by simpa using h0
    by_cases h1 : 0 ≤ d
    · by_cases h2 : d < 60
      · by_cases h3 : 0 ≤ b
        · by_cases h4 : b < 65536
          · go_enter Try.func55, Try.ntmps55
            go_wp2
            go_ret
            exact ⟨hfin.out _ (by simp [placeB, h0, h1, h2, h3, h4]), hbel.out _⟩
          · go_enter Try.func55, Try.ntmps55
            go_wp2
            go_ret
            exact ⟨hfin.out _ (by simp [placeB, h0]; omega), hbel.out _⟩
        · go_enter Try.func55, Try.ntmps55
          go_wp2
          go_ret
          exact ⟨hfin.out _ (by simp [placeB, h0]; omega), hbel.out _⟩
      · go_enter Try.func55, Try.ntmps55
        go_wp2
        go_ret
        exact ⟨hfin.out _ (by simp [placeB, h0]; omega), hbel.out _⟩
    · go_enter Try.func55, Try.ntmps55
      go_wp2
      go_ret
      exact ⟨hfin.out _ (by simp [placeB, h0]; omega), hbel.out _⟩

end Go.Proofs.Ytbcmpfdhpefdbaa
