/- slices.EqualFunc at lists of bytes, with the closure of Decode. -/
import Derived.Test.YtbcmpfdhpefdbaaEq
set_option linter.unusedVariables false
set_option linter.unusedSimpArgs false
namespace Go.Proofs.Ytbcmpfdhpefdbaa
open Go.RowKit
attribute [local irreducible] Go.Calls

set_option maxRecDepth 100000 in
theorem decode1_any (F G : Nat → Prop) (A C : Option Addr) (n c m d : Nat) (bs cs : List UInt8) (w : World) (h1 : RdB w F A n bs) (h2 : RdB w G C m cs) (hnc : n ≤ c) (hmd : m ≤ d) (hl : bs.length ≤ 1000000000) (hl2 : cs.length ≤ 1000000000)
    (hF : ∀ k, F k → k < w.heap.size) (hG : ∀ k, G k → k < w.heap.size) :
    Calls Try.prog 70 #[.slice A n c, .slice C m d] w (EqPost w bs cs) := by
  go_enter Try.func70, Try.ntmps70
  go_wp2_with fail
  refine (equal_any F G A C n c m d bs cs w h1 h2 hnc hmd hl hl2 hF hG).mono ?_
  rintro e w1 ⟨rfl, hb⟩
  go_wp2
  go_ret
  exact ⟨rfl, hb⟩

set_option maxRecDepth 100000 in
set_option maxHeartbeats 400000 in
theorem equalFunc_any (F G : Nat → Prop) (A C : Option Addr) (n c m d : Nat) (ss ts : List (List UInt8)) (w : World) (h1 : RdS w F A n ss) (h2 : RdS w G C m ts) (hnc : n ≤ c) (hmd : m ≤ d) (hl : ss.length ≤ 1000000000) (hl2 : ts.length ≤ 1000000000)
    (hs : ∀ s ∈ ss, s.length ≤ 1000000000) (ht : ∀ s ∈ ts, s.length ≤ 1000000000) (hF : ∀ k, F k → k < w.heap.size) (hG : ∀ k, G k → k < w.heap.size) :
    Calls Try.prog 69 #[.slice A n c, .slice C m d, .func (.func 70) #[] #[]] w (EqPost w ss ts) := by
  have hn := h1.1
  have hm := h2.1
  have hyes := hid (show ∀ w', ss = ts → Below w.heap.size w w' → EqPost w ss ts (.returned (.bool true)) w' from fun w' e hb => ⟨by rw [decide_eq_true e], hb⟩)
  have hno := hid (show ∀ w', ss ≠ ts → Below w.heap.size w w' → EqPost w ss ts (.returned (.bool false)) w' from fun w' e hb => ⟨by rw [decide_eq_false e], hb⟩)
  have hnl : n ≤ 1000000000 := by omega
  have hml : m ≤ 1000000000 := by omega
  have hn' := hid hn
  have hm' := hid hm
  clear hn hm
  by_cases hnm : n = m
  · subst hnm
    go_enter Try.func69, Try.ntmps69
    go_wp2_with fail
    go_loopw [17] (fun i wr => ∃ j : Nat, i = .int .i64 (j : Int) ∧ j ≤ n ∧ Hid (ss.take j = ts.take j) ∧ Below w.heap.size w wr) (fun i _ => n - (intOf i).toNat)
    case atStart => exact ⟨0, rfl, by omega, rfl, Below.refl _ _⟩
    case round =>
      obtain ⟨j, rfl, hj, htk, hbel⟩ := hrel
      by_cases hjn : j < n
      · obtain ⟨x, hx⟩ : ∃ x, ss[j]? = some x := ⟨ss[j]'(by rw [← hn'.out]; exact hjn), List.getElem?_eq_getElem _⟩
        obtain ⟨y, hy⟩ : ∃ y, ts[j]? = some y := ⟨ts[j]'(by rw [← hm'.out]; exact hjn), List.getElem?_eq_getElem _⟩
        obtain ⟨b, o, A1, c1, rfl, hFb, hc1, hlc1, hlm1, hr1⟩ := (h1.keep (Kp.of_below hbel hF)).at_ hx
        obtain ⟨b2, o2, A2, c2, rfl, hGb, hc2, hlc2, hlm2, hr2⟩ := (h2.keep (Kp.of_below hbel hG)).at_ hy
        have hxl := hs x (List.mem_of_getElem? hx)
        have hyl := ht y (List.mem_of_getElem? hy)
        have hx' := hid hx
        have hy' := hid hy
        clear hx hy
        have hz := hbel.size
        go_wp2_with fail
        refine (decode1_any F G A1 A2 _ c1 _ c2 x y wr hr1 hr2 hlc1 hlc2 hxl hyl (fun k hk => by have := hF k hk; omega) (fun k hk => by have := hG k hk; omega)).mono ?_
        rintro e w1 ⟨rfl, hb1⟩
        by_cases hxy : x = y
        · subst hxy
          rw [decide_eq_true rfl]
          go_wp2
          go_roundw
          case rel =>
            refine ⟨j + 1, by go_num, by omega, ?_, hbel.trans (hb1.mono hz)⟩
            show ss.take (j + 1) = ts.take (j + 1)
            rw [List.take_add_one, List.take_add_one, htk.out, hx'.out, hy'.out]
          case measure => simp [intOf]; omega
        · rw [decide_eq_false hxy]
          go_wp2
          go_ret
          refine hno.out _ (fun e => ?_) (hbel.trans (hb1.mono hz))
          have := hx'.out
          rw [e, hy'.out] at this
          injection this with this
          exact hxy this.symm
      · have hjn : j = n := by omega
        subst hjn
        go_wp2
        go_ret
        refine hyes.out _ ?_ hbel
        have := htk.out
        rwa [List.take_of_length_le (by rw [← hn'.out]; omega), List.take_of_length_le (by rw [← hm'.out]; omega)] at this
  · have hnm2 : ¬ (n : Int) = (m : Int) := by omega
    go_enter Try.func69, Try.ntmps69
    go_wp2
    go_ret
    exact hno.out _ (fun e => hnm (by rw [hn'.out, hm'.out, e])) (Below.refl _ _)

end Go.Proofs.Ytbcmpfdhpefdbaa
