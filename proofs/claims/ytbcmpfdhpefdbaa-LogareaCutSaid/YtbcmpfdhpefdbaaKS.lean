/- Short and long. The contract of law28's large. The contract of law28's few. -/
import Derived.Test.YtbcmpfdhpefdbaaSame
import Derived.Test.YtbcmpfdhpefdbaaKX
set_option linter.unusedVariables false
set_option linter.unusedSimpArgs false
namespace Go.Proofs.Ytbcmpfdhpefdbaa
open Go.RowKit
attribute [local irreducible] Go.Calls

def Rec.short (r : Rec) : Bool := decide (r.writes.length ≤ 70 ∧ r.moves.length ≤ 70 ∧ r.note.length ≤ 300)

set_option maxRecDepth 100000 in
set_option maxHeartbeats 400000 in
theorem short_any (F : Nat → Prop) (r : Rec) (Aw : Option Addr) (nw cw : Nat) (Am : Option Addr) (nm cm : Nat) (An : Option Addr) (nn cn : Nat) (w : World) (h : RecIn w F r Aw nw cw Am nm cm An nn cn) :
    Calls Try.prog 17 #[.agg (recCells r Aw nw cw Am nm cm An nn cn)] w fun e w' => e = .returned (.bool r.short) ∧ Below w.heap.size w w' := by
  have hfin := hid (show ∀ b : Bool, b = r.short → (Ending.returned (.bool b) = .returned (.bool r.short)) from fun b h => by rw [h])
  have hbel : ∀ o, Below w.heap.size w (w.alloc o) := fun o => (Below.refl _ _).alloc (Nat.le_refl _) _
  have hbel := hid hbel
  have hw := hid h.wr.1
  have hm := hid h.mv.1
  have hn := hid h.nt.1
  unfold recCells
  by_cases k1 : nw ≤ 70
  · have k1i : (nw : Int) ≤ 70 := by omega
    by_cases k2 : nm ≤ 70
    · have k2i : (nm : Int) ≤ 70 := by omega
      by_cases k3 : nn ≤ 300
      · have k3i : (nn : Int) ≤ 300 := by omega
        go_enter Try.func17, Try.ntmps17
        go_wp2
        go_ret
        exact ⟨hfin.out _ (by rw [Rec.short, ← hw.out, ← hm.out, ← hn.out]; simp [k1, k2, k3, k1i, k2i, k3i]), hbel.out _⟩
      · have k3i : ¬ (nn : Int) ≤ 300 := by omega
        go_enter Try.func17, Try.ntmps17
        go_wp2
        go_ret
        exact ⟨hfin.out _ (by rw [Rec.short, ← hw.out, ← hm.out, ← hn.out]; simp [k1, k2, k3, k1i, k2i, k3i]; try omega), hbel.out _⟩
    · have k2i : ¬ (nm : Int) ≤ 70 := by omega
      go_enter Try.func17, Try.ntmps17
      go_wp2
      go_ret
      exact ⟨hfin.out _ (by rw [Rec.short, ← hw.out, ← hm.out, ← hn.out]; simp [k1, k2, k1i, k2i]; try omega), hbel.out _⟩
  · have k1i : ¬ (nw : Int) ≤ 70 := by omega
    go_enter Try.func17, Try.ntmps17
    go_wp2
    go_ret
    exact ⟨hfin.out _ (by rw [Rec.short, ← hw.out, ← hm.out, ← hn.out]; simp [k1, k1i]; try omega), hbel.out _⟩

/-- what 'long' answers -/
def longB (ss : List (List UInt8)) : Bool := ss.any (fun s => decide (200 < s.length)) || decide (100 < ss.length)

set_option maxRecDepth 100000 in
set_option maxHeartbeats 400000 in
theorem long_any (F : Nat → Prop) (A : Option Addr) (n c : Nat) (ss : List (List UInt8)) (w : World) (h1 : RdS w F A n ss) (hl : n ≤ maxLen) :
    Calls Try.prog 26 #[.slice A n c] w fun e w' => e = .returned (.bool (longB ss)) ∧ w' = w := by
  have hn' := hid h1.1
  unfold maxLen at hl
  go_enter Try.func26, Try.ntmps26
  go_wp2_with fail
  go_loop [6] (fun i => ∃ j : Nat, i = .int .i64 (j : Int) ∧ j ≤ n ∧ Hid ((ss.take j).any (fun s => decide (200 < s.length)) = false)) (fun i => n - (intOf i).toNat)
  case atStart => exact ⟨0, rfl, by omega, rfl⟩
  case round =>
    obtain ⟨j, rfl, hj, ht⟩ := hrel
    by_cases hjn : j < n
    · obtain ⟨x, hx⟩ : ∃ x, ss[j]? = some x := ⟨ss[j]'(by rw [← hn'.out]; exact hjn), List.getElem?_eq_getElem _⟩
      obtain ⟨b, o, A1, c1, rfl, hFb, hc1, hlc1, hlm1, hr1⟩ := h1.at_ hx
      have hx' := hid hx
      have hmem := hid (List.mem_of_getElem? hx)
      clear hx
      by_cases hxl : 200 < x.length
      · have hxi : (200 : Int) < (x.length : Int) := by omega
        have hbt := hid (show longB ss = true by rw [longB, List.any_eq_true.2 ⟨x, hmem.out, by simpa using hxl⟩]; rfl)
        go_wp2
        go_ret
        exact ⟨by rw [hbt.out]; rfl, rfl⟩
      · have hxi : ¬ (200 : Int) < (x.length : Int) := by omega
        have hxi2 : (x.length : Int) ≤ 200 := by omega
        go_wp2
        go_round
        case rel =>
          refine ⟨j + 1, by go_num, by omega, ?_⟩
          show (ss.take (j + 1)).any _ = false
          rw [List.take_add_one, hx'.out, List.any_append, ht.out]
          simp; omega
        case measure => simp [intOf]; omega
    · have hjn : j = n := by omega
      subst hjn
      have hbt := hid (show longB ss = decide ((100 : Int) < (j : Int)) by
        have := ht.out
        rw [List.take_of_length_le (by rw [← hn'.out]; omega)] at this
        rw [longB, this, ← hn'.out]
        simp; omega)
      go_wp2
      go_ret
      exact ⟨by rw [hbt.out]; rfl, rfl⟩

end Go.Proofs.Ytbcmpfdhpefdbaa

namespace Go.Proofs.Ytbcmpfdhpefdbaa
open Go.RowKit
attribute [local irreducible] Go.Calls

/-- what 'large' answers -/
def largeB (ss : List (List UInt8)) : Bool := ss.any (fun s => decide (200 < s.length)) || decide (120 < ss.length)

set_option maxRecDepth 100000 in
set_option maxHeartbeats 400000 in
theorem large_any (F : Nat → Prop) (A : Option Addr) (n c : Nat) (ss : List (List UInt8)) (w : World) (h1 : RdS w F A n ss) (hl : n ≤ maxLen) :
    Calls Try.prog 33 #[.slice A n c] w fun e w' => e = .returned (.bool (largeB ss)) ∧ w' = w := by
  have hn' := hid h1.1
  unfold maxLen at hl
  go_enter Try.func33, Try.ntmps33
  go_wp2_with fail
  go_loop [6] (fun i => ∃ j : Nat, i = .int .i64 (j : Int) ∧ j ≤ n ∧ Hid ((ss.take j).any (fun s => decide (200 < s.length)) = false)) (fun i => n - (intOf i).toNat)
  case atStart => exact ⟨0, rfl, by omega, rfl⟩
  case round =>
    obtain ⟨j, rfl, hj, ht⟩ := hrel
    by_cases hjn : j < n
    · obtain ⟨x, hx⟩ : ∃ x, ss[j]? = some x := ⟨ss[j]'(by rw [← hn'.out]; exact hjn), List.getElem?_eq_getElem _⟩
      obtain ⟨b, o, A1, c1, rfl, hFb, hc1, hlc1, hlm1, hr1⟩ := h1.at_ hx
      have hx' := hid hx
      have hmem := hid (List.mem_of_getElem? hx)
      clear hx
      by_cases hxl : 200 < x.length
      · have hxi : (200 : Int) < (x.length : Int) := by omega
        have hbt := hid (show largeB ss = true by rw [largeB, List.any_eq_true.2 ⟨x, hmem.out, by simpa using hxl⟩]; rfl)
        go_wp2
        go_ret
        exact ⟨by rw [hbt.out]; rfl, rfl⟩
      · have hxi : ¬ (200 : Int) < (x.length : Int) := by omega
        have hxi2 : (x.length : Int) ≤ 200 := by omega
        go_wp2
        go_round
        case rel =>
          refine ⟨j + 1, by go_num, by omega, ?_⟩
          show (ss.take (j + 1)).any _ = false
          rw [List.take_add_one, hx'.out, List.any_append, ht.out]
          simp; omega
        case measure => simp [intOf]; omega
    · have hjn : j = n := by omega
      subst hjn
      have hbt := hid (show largeB ss = decide ((120 : Int) < (j : Int)) by
        have := ht.out
        rw [List.take_of_length_le (by rw [← hn'.out]; omega)] at this
        rw [largeB, this, ← hn'.out]
        simp; omega)
      go_wp2
      go_ret
      exact ⟨by rw [hbt.out]; rfl, rfl⟩

end Go.Proofs.Ytbcmpfdhpefdbaa

namespace Go.Proofs.Ytbcmpfdhpefdbaa
open Go.RowKit
attribute [local irreducible] Go.Calls

def fewB (rs : List Rec) : Bool := rs.all Rec.short && decide (rs.length ≤ 20)

set_option maxRecDepth 100000 in
set_option maxHeartbeats 1000000 in
theorem few_any (F : Nat → Prop) (A : Option Addr) (n c : Nat) (rs : List Rec) (w : World) (h : RdR w F A n rs) (hl : n ≤ maxLen) (hF : ∀ k, F k → k < w.heap.size) :
    Calls Try.prog 37 #[.slice A n c] w fun e w' => e = .returned (.bool (fewB rs)) ∧ Below w.heap.size w w' := by
  have hn := hid h.1
  have hnb : n ≤ 9223372036854775807 := by simp only [maxLen] at hl; omega
  clear hl
  go_enter Try.func37, Try.ntmps37
  go_wp2_with fail
  go_loopw [6] (fun i wr => ∃ j : Nat, i = .int .i64 (j : Int) ∧ j ≤ n ∧ Hid ((rs.take j).all Rec.short = true) ∧ Below w.heap.size w wr) (fun i _ => n - (intOf i).toNat)
  case atStart => exact ⟨0, rfl, by omega, rfl, Below.refl _ _⟩
  case round =>
    obtain ⟨j, rfl, hj, htk, hbel⟩ := hrel
    by_cases hjn : j < n
    · obtain ⟨x, hx⟩ : ∃ x, rs[j]? = some x := ⟨rs[j]'(by rw [← hn.out]; exact hjn), List.getElem?_eq_getElem _⟩
      obtain ⟨b, o, Aw, nw, cw, Am, nm, cm, An, nn, cn, rfl, hFb, hr1, hc1⟩ := (h.keep (Kp.of_below hbel hF)).at_ hx
      have hx' := hid hx
      have hc1' := hid hc1
      clear hx hc1
      have hz := hbel.size
      go_wp2_with ((with_reducible refine at_wl ?_); (refine wpList_ldAt rfl 27 _ rfl b (o + j * 5) (recCells x Aw nw cw Am nm cm An nn cn).toList _ rfl hc1'.out Try.underlying27 rfl info_rec ?_))
      refine (short_any F x Aw nw cw Am nm cm An nn cn _ hr1).mono ?_
      rintro e w2 ⟨rfl, hb2⟩
      have hbel2 := hbel.trans (hb2.mono hz)
      cases hs : x.short with
      | true =>
        have hs' := hid hs
        clear hs
        go_wp2_with fail
        go_roundw
        case rel => exact ⟨j + 1, by go_num, by omega, by show (rs.take (j + 1)).all Rec.short = true; rw [all_take_succ _ _ _ _ hx'.out, htk.out, hs'.out]; rfl, hbel2⟩
        case measure => simp [intOf]; omega
      | false =>
        have hres := hid (show fewB rs = false by rw [fewB, all_of_take_false _ _ _ _ hx'.out hs]; rfl)
        clear hs
        go_wp2_with fail
        go_ret
        exact ⟨by rw [hres.out]; rfl, hbel2⟩
    · have hjn' : j = n := by omega
      subst hjn'
      have hall : rs.all Rec.short = true := by
        have := htk.out
        rwa [List.take_of_length_le (by rw [← hn.out]; omega)] at this
      by_cases h20 : j ≤ 20
      · have h20' : (j : Int) ≤ 20 := by omega
        have hres := hid (show fewB rs = true by rw [fewB, hall, ← hn.out, decide_eq_true h20]; rfl)
        clear hall htk
        go_wp2_with fail
        go_ret
        exact ⟨by rw [hres.out]; simp [h20, h20'], hbel⟩
      · have h20' : ¬ (j : Int) ≤ 20 := by omega
        have hres := hid (show fewB rs = false by rw [fewB, ← hn.out, decide_eq_false h20]; simp)
        clear hall htk
        go_wp2_with fail
        go_ret
        exact ⟨by rw [hres.out]; first | rfl | (simp; omega), hbel⟩

end Go.Proofs.Ytbcmpfdhpefdbaa
