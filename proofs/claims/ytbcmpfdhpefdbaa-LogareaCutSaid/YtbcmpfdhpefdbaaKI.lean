/- slices.Equal at bytes. slices.EqualFunc at lists of bytes, with the closure of Decode. 'string(b)' of a slice of bytes that is read. What Inspect answers, plainly. -/
import Derived.Test.YtbcmpfdhpefdbaaKF
import Derived.Laws.BytesArg
import Derived.Test.YtbcmpfdhpefdbaaKB
set_option linter.unusedVariables false
set_option linter.unusedSimpArgs false
namespace Go.Proofs.Ytbcmpfdhpefdbaa
open Go.RowKit
attribute [local irreducible] Go.Calls

theorem RdB.at_ {w : World} {F : Nat → Prop} {A : Option Addr} {n : Nat} {bs : List UInt8} (h : RdB w F A n bs) {j : Nat} {x : UInt8} (hx : bs[j]? = some x) :
    ∃ b o, A = some ⟨b, o, none⟩ ∧ F b ∧ w.cell? ⟨b, o + j, none⟩ = some (.int .u8 (x.toNat : Int)) := by
  have hj : j < bs.length := (List.getElem?_eq_some_iff.1 hx).1
  obtain ⟨b, o, rfl, hF, hc⟩ := h.2.2 (by rw [h.1]; omega)
  exact ⟨b, o, rfl, hF, hc j _ (by rw [List.getElem?_map, hx]; rfl)⟩

/-- answers whether the two are alike -/
def EqPost {α : Type} [DecidableEq α] (w : World) (x y : α) (e : Ending) (w' : World) : Prop := e = .returned (.bool (decide (x = y))) ∧ Below w.heap.size w w'

set_option maxRecDepth 100000 in
set_option maxHeartbeats 400000 in
theorem equal_any (F G : Nat → Prop) (A C : Option Addr) (n c m d : Nat) (bs cs : List UInt8) (w : World) (h1 : RdB w F A n bs) (h2 : RdB w G C m cs) (hnc : n ≤ c) (hmd : m ≤ d) (hl : bs.length ≤ 1000000000) (hl2 : cs.length ≤ 1000000000)
    (hF : ∀ k, F k → k < w.heap.size) (hG : ∀ k, G k → k < w.heap.size) :
    Calls Try.prog 57 #[.slice A n c, .slice C m d] w (EqPost w bs cs) := by
  have hn := h1.1
  have hm := h2.1
  have hyes := hid (show ∀ w', bs = cs → Below w.heap.size w w' → EqPost w bs cs (.returned (.bool true)) w' from fun w' e hb => ⟨by rw [decide_eq_true e], hb⟩)
  have hno := hid (show ∀ w', bs ≠ cs → Below w.heap.size w w' → EqPost w bs cs (.returned (.bool false)) w' from fun w' e hb => ⟨by rw [decide_eq_false e], hb⟩)
  have hnl : n ≤ 1000000000 := by omega
  have hml : m ≤ 1000000000 := by omega
  have hn' := hid hn
  have hm' := hid hm
  clear hn hm
  by_cases hnm : n = m
  · subst hnm
    go_enter Try.func57, Try.ntmps57
    go_wp2_with fail
    go_loopw [13] (fun i wr => ∃ j : Nat, i = .int .i64 (j : Int) ∧ j ≤ n ∧ Hid (bs.take j = cs.take j) ∧ Below w.heap.size w wr) (fun i _ => n - (intOf i).toNat)
    case atStart => exact ⟨0, rfl, by omega, rfl, Below.refl _ _⟩
    case round =>
      obtain ⟨j, rfl, hj, ht, hbel⟩ := hrel
      by_cases hjn : j < n
      · obtain ⟨x, hx⟩ : ∃ x, bs[j]? = some x := ⟨bs[j]'(by rw [← hn'.out]; exact hjn), List.getElem?_eq_getElem _⟩
        obtain ⟨y, hy⟩ : ∃ y, cs[j]? = some y := ⟨cs[j]'(by rw [← hm'.out]; exact hjn), List.getElem?_eq_getElem _⟩
        obtain ⟨b, o, rfl, hFb, hc1⟩ := (h1.keep (Kp.of_below hbel hF)).at_ hx
        obtain ⟨b2, o2, rfl, hGb, hc2⟩ := (h2.keep (Kp.of_below hbel hG)).at_ hy
        have hx' := hid hx
        have hy' := hid hy
        clear hx hy
        by_cases hxy : x = y
        · subst hxy
          go_wp2_with fail
          go_region_held3 (fun w' => w'.cell? ⟨b, o + j, none⟩ = some (.int .u8 (x.toNat : Int)) ∧ w'.cell? ⟨b2, o2 + j, none⟩ = some (.int .u8 (x.toNat : Int))) (exact ⟨hc1, hc2⟩) (fail)
          go_wp2
          go_roundw
          case rel =>
            refine ⟨j + 1, by go_num, by omega, ?_, hbel.drew⟩
            show bs.take (j + 1) = cs.take (j + 1)
            rw [List.take_add_one, List.take_add_one, ht.out, hx'.out, hy'.out]
          case measure => simp [intOf]; omega
        · have hne : ¬ (x.toNat : Int) = (y.toNat : Int) := fun e => hxy (UInt8.toNat_inj.1 (by omega))
          have hne2 : ¬ x.toNat = y.toNat := by omega
          clear hxy
          go_wp2_with fail
          go_region_held3 (fun w' => w'.cell? ⟨b, o + j, none⟩ = some (.int .u8 (x.toNat : Int)) ∧ w'.cell? ⟨b2, o2 + j, none⟩ = some (.int .u8 (y.toNat : Int))) (exact ⟨hc1, hc2⟩) (fail)
          go_wp2
          go_ret
          refine hno.out _ (fun e => ?_) hbel.drew
          have := hx'.out
          rw [e, hy'.out] at this
          injection this with this
          exact hne2 (by rw [this])
      · have hjn : j = n := by omega
        subst hjn
        go_wp2
        go_ret
        refine hyes.out _ ?_ hbel
        have := ht.out
        rwa [List.take_of_length_le (by rw [← hn'.out]; omega), List.take_of_length_le (by rw [← hm'.out]; omega)] at this
  · have hnm2 : ¬ (n : Int) = (m : Int) := by omega
    go_enter Try.func57, Try.ntmps57
    go_wp2
    go_ret
    exact hno.out _ (fun e => hnm (by rw [hn'.out, hm'.out, e])) (Below.refl _ _)

end Go.Proofs.Ytbcmpfdhpefdbaa

namespace Go.Proofs.Ytbcmpfdhpefdbaa
open Go.RowKit
attribute [local irreducible] Go.Calls

set_option maxRecDepth 100000 in
theorem decode1_any (F G : Nat → Prop) (A C : Option Addr) (n c m d : Nat) (bs cs : List UInt8) (w : World) (h1 : RdB w F A n bs) (h2 : RdB w G C m cs) (hnc : n ≤ c) (hmd : m ≤ d) (hl : bs.length ≤ 1000000000) (hl2 : cs.length ≤ 1000000000)
    (hF : ∀ k, F k → k < w.heap.size) (hG : ∀ k, G k → k < w.heap.size) :
    Calls Try.prog 70 #[.slice A n c, .slice C m d] w (EqPost w bs cs) := by
  go_enter Try.func70, Try.ntmps70
  go_wp2_with fail
  refine (equal_any F G A C n c m d bs cs w h1 h2 hnc hmd hl hl2 hF hG).mono ?_
  rintro e w1 ⟨rfl, hb⟩
  go_wp2
  go_ret
  exact ⟨rfl, hb⟩

set_option maxRecDepth 100000 in
set_option maxHeartbeats 400000 in
theorem equalFunc_any (F G : Nat → Prop) (A C : Option Addr) (n c m d : Nat) (ss ts : List (List UInt8)) (w : World) (h1 : RdS w F A n ss) (h2 : RdS w G C m ts) (hnc : n ≤ c) (hmd : m ≤ d) (hl : ss.length ≤ 1000000000) (hl2 : ts.length ≤ 1000000000)
    (hs : ∀ s ∈ ss, s.length ≤ 1000000000) (ht : ∀ s ∈ ts, s.length ≤ 1000000000) (hF : ∀ k, F k → k < w.heap.size) (hG : ∀ k, G k → k < w.heap.size) :
    Calls Try.prog 69 #[.slice A n c, .slice C m d, .func (.func 70) #[] #[]] w (EqPost w ss ts) := by
  have hn := h1.1
  have hm := h2.1
  have hyes := hid (show ∀ w', ss = ts → Below w.heap.size w w' → EqPost w ss ts (.returned (.bool true)) w' from fun w' e hb => ⟨by rw [decide_eq_true e], hb⟩)
  have hno := hid (show ∀ w', ss ≠ ts → Below w.heap.size w w' → EqPost w ss ts (.returned (.bool false)) w' from fun w' e hb => ⟨by rw [decide_eq_false e], hb⟩)
  have hnl : n ≤ 1000000000 := by omega
  have hml : m ≤ 1000000000 := by omega
  have hn' := hid hn
  have hm' := hid hm
  clear hn hm
  by_cases hnm : n = m
  · subst hnm
    go_enter Try.func69, Try.ntmps69
    go_wp2_with fail
    go_loopw [17] (fun i wr => ∃ j : Nat, i = .int .i64 (j : Int) ∧ j ≤ n ∧ Hid (ss.take j = ts.take j) ∧ Below w.heap.size w wr) (fun i _ => n - (intOf i).toNat)
    case atStart => exact ⟨0, rfl, by omega, rfl, Below.refl _ _⟩
    case round =>
      obtain ⟨j, rfl, hj, htk, hbel⟩ := hrel
      by_cases hjn : j < n
      · obtain ⟨x, hx⟩ : ∃ x, ss[j]? = some x := ⟨ss[j]'(by rw [← hn'.out]; exact hjn), List.getElem?_eq_getElem _⟩
        obtain ⟨y, hy⟩ : ∃ y, ts[j]? = some y := ⟨ts[j]'(by rw [← hm'.out]; exact hjn), List.getElem?_eq_getElem _⟩
        obtain ⟨b, o, A1, c1, rfl, hFb, hc1, hlc1, hlm1, hr1⟩ := (h1.keep (Kp.of_below hbel hF)).at_ hx
        obtain ⟨b2, o2, A2, c2, rfl, hGb, hc2, hlc2, hlm2, hr2⟩ := (h2.keep (Kp.of_below hbel hG)).at_ hy
        have hxl := hs x (List.mem_of_getElem? hx)
        have hyl := ht y (List.mem_of_getElem? hy)
        have hx' := hid hx
        have hy' := hid hy
        clear hx hy
        have hz := hbel.size
        go_wp2_with fail
        refine (decode1_any F G A1 A2 _ c1 _ c2 x y wr hr1 hr2 hlc1 hlc2 hxl hyl (fun k hk => by have := hF k hk; omega) (fun k hk => by have := hG k hk; omega)).mono ?_
        rintro e w1 ⟨rfl, hb1⟩
        by_cases hxy : x = y
        · subst hxy
          rw [decide_eq_true rfl]
          go_wp2
          go_roundw
          case rel =>
            refine ⟨j + 1, by go_num, by omega, ?_, hbel.trans (hb1.mono hz)⟩
            show ss.take (j + 1) = ts.take (j + 1)
            rw [List.take_add_one, List.take_add_one, htk.out, hx'.out, hy'.out]
          case measure => simp [intOf]; omega
        · rw [decide_eq_false hxy]
          go_wp2
          go_ret
          refine hno.out _ (fun e => ?_) (hbel.trans (hb1.mono hz))
          have := hx'.out
          rw [e, hy'.out] at this
          injection this with this
          exact hxy this.symm
      · have hjn : j = n := by omega
        subst hjn
        go_wp2
        go_ret
        refine hyes.out _ ?_ hbel
        have := htk.out
        rwa [List.take_of_length_le (by rw [← hn'.out]; omega), List.take_of_length_le (by rw [← hm'.out]; omega)] at this
  · have hnm2 : ¬ (n : Int) = (m : Int) := by omega
    go_enter Try.func69, Try.ntmps69
    go_wp2
    go_ret
    exact hno.out _ (fun e => hnm (by rw [hn'.out, hm'.out, e])) (Below.refl _ _)

end Go.Proofs.Ytbcmpfdhpefdbaa

namespace Go.Proofs.Ytbcmpfdhpefdbaa
open Go.RowKit

/-- the string of bytes -/
def strB (bs : List UInt8) : ByteArray := ⟨bs.toArray⟩
theorem strB_inj {a b : List UInt8} : strB a = strB b ↔ a = b := by
  constructor
  · intro h
    have := congrArg (fun x : ByteArray => x.data.toList) h
    simpa [strB] using this
  · rintro rfl; rfl

theorem strB_toList (l : List UInt8) : (strB l).toList = l := by simp [strB]
theorem strB_ne {a b : List UInt8} (h : ¬ a = b) : ((strB a).toList == (strB b).toList) = false := by rw [strB_toList, strB_toList]; exact beq_eq_false_iff_ne.2 h
theorem strB_eq {a b : List UInt8} (h : a = b) : ((strB a).toList == (strB b).toList) = true := by rw [strB_toList, strB_toList]; exact beq_iff_eq.2 h

theorem RdB.conv {w : World} {F : Nat → Prop} {A : Option Addr} {n : Nat} {bs : List UInt8} (h : RdB w F A n bs) (c : Nat) :
    (convert 25 9 (.slice A n c)).run Try.prog w = .ok (.string (strB bs)) w := by
  have hstr : ∀ (w : World) (ns : List Int) (l : List UInt8), ns = l.map (fun x => (x.toNat : Int)) → ns.foldl (fun r n => r.push (UInt8.ofNat n.toNat)) ByteArray.empty = strB l := by
    intro w ns l e
    rw [foldl_push_bytes, e]
    have hid' : l.map ((fun n : Int => UInt8.ofNat n.toNat) ∘ fun x : UInt8 => (x.toNat : Int)) = l := by
      conv => rhs; rw [← List.map_id l]
      apply List.map_congr_left
      intro x _
      simp
    simp [strB, ByteArray.empty, ByteArray.emptyWithCapacity, hid']
    rfl
  rw [run_convert_bytes_string w 25 9 5 _ n c Try.underlying25 (by kernel_rfl) (by kernel_rfl)]
  rcases A with _ | ad
  · have hn : n = 0 := by
      rcases Nat.eq_zero_or_pos n with h0 | h0
      · exact h0
      · obtain ⟨_, _, e, _⟩ := h.2.2 h0; cases e
    have hb : bs = [] := List.eq_nil_of_length_eq_zero (by rw [← h.1]; exact hn)
    subst hb
    simp [Conv.bytesToString, Sem.run_pure]
    rfl
  · have hl : (loadCells ad n).run Try.prog w = .ok ((bs.map (fun x => (x.toNat : Int))).map (Value.int .u8)).toArray w := by
      have := run_loadCells_list (P := Try.prog) w ad (bs.map B) (fun j v hj => by
        have hj' : j < n := by
          have := (List.getElem?_eq_some_iff.1 hj).1
          rw [List.length_map] at this; rw [h.1]; exact this
        obtain ⟨b, o, e, _, hc⟩ := h.2.2 (by omega)
        injection e with e
        subst e
        rw [addr_add]
        exact hc j v hj)
      rw [List.length_map, ← h.1] at this
      rw [this, List.map_map]
      rfl
    rw [run_bytesToString w ad n c _ hl, hstr w _ bs rfl]

end Go.Proofs.Ytbcmpfdhpefdbaa

namespace Go.Proofs.Ytbcmpfdhpefdbaa
open Go.RowKit

structure Ins where
  (gen seq part parts : Nat) (chunk : List UInt8) (code : Int)
  deriving DecidableEq
def Ins.bad (c : Int) : Ins := ⟨0, 0, 0, 0, [], c⟩
/-- the four numbers and the chunk behind them -/
def insR (st : RS) : Ins :=
  if rDone (rBytes (rUint (rUint (rUint (rUint st).2).2).2).2).2 ≠ 0 ∨ (rUint (rUint st).2).1 < 1 ∨ 4096 < (rUint (rUint (rUint (rUint st).2).2).2).1 ∨
    (rUint (rUint (rUint (rUint st).2).2).2).1 ≤ (rUint (rUint (rUint st).2).2).1 ∨ (rBytes (rUint (rUint (rUint (rUint st).2).2).2).2).1.length < 1 ∨ 28 < (rBytes (rUint (rUint (rUint (rUint st).2).2).2).2).1.length then Ins.bad 5
  else ⟨(rUint st).1, (rUint (rUint st).2).1, (rUint (rUint (rUint st).2).2).1, (rUint (rUint (rUint (rUint st).2).2).2).1, (rBytes (rUint (rUint (rUint (rUint st).2).2).2).2).1, 0⟩
def insp (b : List UInt8) : Ins :=
  if b.length < 8 ∨ b[0]? ≠ some 82 then Ins.bad 5
  else if sealB (b.take (b.length - 8)) ≠ b then Ins.bad 6
  else if b.length = 8 then Ins.bad 5
  else insR (some ((b.take (b.length - 8)).drop 1))

def Ins.cells (x : Ins) : Array Value := #[.int .u64 (x.gen : Int), .int .u64 (x.seq : Int), .int .i64 (x.part : Int), .int .i64 (x.parts : Int)]
def InspPost (F : Nat → Prop) (w : World) (x : Ins) (e : Ending) (w' : World) : Prop :=
  ∃ A n c, e = .returned (.tuple #[.agg x.cells, .slice A n c, .int .i64 x.code]) ∧ n ≤ c ∧ c ≤ maxLen ∧ RdB w' (fun k => k < w'.heap.size ∧ (F k ∨ w.heap.size ≤ k)) A n x.chunk ∧ Below w.heap.size w w'
theorem inspPost_bad {F : Nat → Prop} {w : World} {c : Int} {w' : World} (hb : Below w.heap.size w w') : InspPost F w (Ins.bad c) (.returned (.tuple #[.agg #[.int .u64 0, .int .u64 0, .int .i64 0, .int .i64 0], .slice none 0 0, .int .i64 c])) w' :=
  ⟨none, 0, 0, rfl, Nat.le_refl _, Nat.zero_le _, ⟨rfl, Rd.none_⟩, hb⟩
theorem rTake_len (n : Nat) (st : RS) : (rTake n st).1.length ≤ rLeft st := by
  cases st with
  | none => simp [rTake, rLeft]
  | some bs =>
    by_cases hn : n ≤ bs.length
    · simp [rTake, hn, rLeft]
    · simp [rTake, hn]
theorem rBytes_len (st : RS) : (rBytes st).1.length ≤ rLeft st := by
  have h := @rUint_left st
  unfold rBytes
  split
  · simp
  · rename_i n rest e
    rw [e] at h
    exact Nat.le_trans (rTake_len _ _) h

end Go.Proofs.Ytbcmpfdhpefdbaa
