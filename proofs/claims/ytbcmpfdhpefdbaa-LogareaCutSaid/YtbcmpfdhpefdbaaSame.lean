/- SameSectors, Short, long. -/
import Derived.Test.YtbcmpfdhpefdbaaKI
import Derived.Test.YtbcmpfdhpefdbaaKE
set_option linter.unusedVariables false
set_option linter.unusedSimpArgs false
namespace Go.Proofs.Ytbcmpfdhpefdbaa
open Go.RowKit
attribute [local irreducible] Go.Calls

set_option maxRecDepth 100000 in
set_option maxHeartbeats 400000 in
theorem sameSectors_any (F G : Nat → Prop) (A C : Option Addr) (n c m d : Nat) (ss ts : List (List UInt8)) (w : World) (h1 : RdS w F A n ss) (h2 : RdS w G C m ts) (hnc : n ≤ c) (hmd : m ≤ d) (hl : ss.length ≤ 1000000000) (hl2 : ts.length ≤ 1000000000)
    (hF : ∀ k, F k → k < w.heap.size) (hG : ∀ k, G k → k < w.heap.size) :
    Calls Try.prog 20 #[.slice A n c, .slice C m d] w (EqPost w ss ts) := by
  have hn := h1.1
  have hm := h2.1
  have hyes := hid (show ∀ w', ss = ts → Below w.heap.size w w' → EqPost w ss ts (.returned (.bool true)) w' from fun w' e hb => ⟨by rw [decide_eq_true e], hb⟩)
  have hno := hid (show ∀ w', ss ≠ ts → Below w.heap.size w w' → EqPost w ss ts (.returned (.bool false)) w' from fun w' e hb => ⟨by rw [decide_eq_false e], hb⟩)
  have hnl : n ≤ 1000000000 := by omega
  have hml : m ≤ 1000000000 := by omega
  have hn' := hid hn
  have hm' := hid hm
  clear hn hm
  by_cases hnm : n = m
  · subst hnm
    go_enter Try.func20, Try.ntmps20
    go_wp2_with fail
    go_loopw [5] (fun i wr => ∃ j : Nat, i = .int .i64 (j : Int) ∧ j ≤ n ∧ Hid (ss.take j = ts.take j) ∧ Below w.heap.size w wr) (fun i _ => n - (intOf i).toNat)
    case atStart => exact ⟨0, rfl, by omega, rfl, Below.refl _ _⟩
    case round =>
      obtain ⟨j, rfl, hj, htk, hbel⟩ := hrel
      by_cases hjn : j < n
      · obtain ⟨x, hx⟩ : ∃ x, ss[j]? = some x := ⟨ss[j]'(by rw [← hn'.out]; exact hjn), List.getElem?_eq_getElem _⟩
        obtain ⟨y, hy⟩ : ∃ y, ts[j]? = some y := ⟨ts[j]'(by rw [← hm'.out]; exact hjn), List.getElem?_eq_getElem _⟩
        obtain ⟨b, o, A1, c1, rfl, hFb, hc1, hlc1, hlm1, hr1⟩ := (h1.keep (Kp.of_below hbel hF)).at_ hx
        obtain ⟨b2, o2, A2, c2, rfl, hGb, hc2, hlc2, hlm2, hr2⟩ := (h2.keep (Kp.of_below hbel hG)).at_ hy
        have hx' := hid hx
        have hy' := hid hy
        clear hx hy
        have hz := hbel.size
        by_cases hxy : x = y
        · have hq := strB_eq hxy
          have hxy' := hid hxy
          clear hxy
          go_wp2_with fail
          go_region_held3 (fun w' => w'.cell? ⟨b, o + j, none⟩ = some (.slice A1 x.length c1) ∧ w'.cell? ⟨b2, o2 + j, none⟩ = some (.slice A2 y.length c2) ∧ (convert 25 9 (.slice A1 x.length c1)).run Try.prog w' = .ok (.string (strB x)) w' ∧ (convert 25 9 (.slice A2 y.length c2)).run Try.prog w' = .ok (.string (strB y)) w') (exact ⟨hc1, hc2, hr1.drew.conv c1, hr2.drew.conv c2⟩) (fail)
          go_wp2
          go_roundw
          case rel =>
            refine ⟨j + 1, by go_num, by omega, ?_, hbel.drew⟩
            show ss.take (j + 1) = ts.take (j + 1)
            rw [List.take_add_one, List.take_add_one, htk.out, hx'.out, hy'.out, hxy'.out]
          case measure => simp [intOf]; omega
        · have hq := strB_ne hxy
          go_wp2_with fail
          go_region_held3 (fun w' => w'.cell? ⟨b, o + j, none⟩ = some (.slice A1 x.length c1) ∧ w'.cell? ⟨b2, o2 + j, none⟩ = some (.slice A2 y.length c2) ∧ (convert 25 9 (.slice A1 x.length c1)).run Try.prog w' = .ok (.string (strB x)) w' ∧ (convert 25 9 (.slice A2 y.length c2)).run Try.prog w' = .ok (.string (strB y)) w') (exact ⟨hc1, hc2, hr1.drew.conv c1, hr2.drew.conv c2⟩) (fail)
          go_wp2
          go_ret
          refine hno.out _ (fun e => ?_) hbel.drew
          have := hx'.out
          rw [e, hy'.out] at this
          injection this with this
          exact hxy this.symm
      · have hjn : j = n := by omega
        subst hjn
        go_wp2
        go_ret
        refine hyes.out _ ?_ hbel
        have := htk.out
        rwa [List.take_of_length_le (by rw [← hn'.out]; omega), List.take_of_length_le (by rw [← hm'.out]; omega)] at this
  · have hnm2 : ¬ (n : Int) = (m : Int) := by omega
    go_enter Try.func20, Try.ntmps20
    go_wp2
    go_ret
    exact hno.out _ (fun e => hnm (by rw [hn'.out, hm'.out, e])) (Below.refl _ _)

end Go.Proofs.Ytbcmpfdhpefdbaa
