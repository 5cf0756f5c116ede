/- The contract of the reference's SameAll. -/
import Derived.Test.YtbcmpfdhpefdbaaKX
set_option linter.unusedVariables false
set_option linter.unusedSimpArgs false
namespace Go.Proofs.Ytbcmpfdhpefdbaa
open Go.RowKit
attribute [local irreducible] Go.Calls

/-- what the comparison of two lists reads -/
structure SaIn (w : World) (b o : Nat) (cs : List Value) (b' o' : Nat) (ds : List Value) : Prop where
  (x : RowAt w b o cs) (y : RowAt w b' o' ds)

set_option maxRecDepth 100000 in
set_option maxHeartbeats 1000000 in
theorem sameAll_any (F G : Nat → Prop) (A C : Option Addr) (n c m d : Nat) (rs ts : List Rec) (w : World) (h1 : RdR w F A n rs) (h2 : RdR w G C m ts) (hl : n ≤ 1000000) (hF : ∀ k, F k → k < w.heap.size) (hG : ∀ k, G k → k < w.heap.size) :
    Calls Try.prog 36 #[.slice A n c, .slice C m d] w (EqPost w rs ts) := by
  have hn := hid h1.1
  have hm := hid h2.1
  have hyes := hid (show ∀ w', rs = ts → Below w.heap.size w w' → EqPost w rs ts (.returned (.bool true)) w' from fun w' e hb => ⟨by rw [decide_eq_true e], hb⟩)
  have hno := hid (show ∀ w', ¬ rs = ts → Below w.heap.size w w' → EqPost w rs ts (.returned (.bool false)) w' from fun w' e hb => ⟨by rw [decide_eq_false e], hb⟩)
  by_cases hnm : n = m
  · subst hnm
    go_enter Try.func36, Try.ntmps36
    go_wp2_with fail
    go_loopw [5] (fun i wr => ∃ j : Nat, i = .int .i64 (j : Int) ∧ j ≤ n ∧ Hid (rs.take j = ts.take j) ∧ Below w.heap.size w wr) (fun i _ => n - (intOf i).toNat)
    case atStart => exact ⟨0, rfl, by omega, rfl, Below.refl _ _⟩
    case round =>
      obtain ⟨j, rfl, hj, htk, hbel⟩ := hrel
      by_cases hjn : j < n
      · obtain ⟨x, hx⟩ : ∃ x, rs[j]? = some x := ⟨rs[j]'(by rw [← hn.out]; exact hjn), List.getElem?_eq_getElem _⟩
        obtain ⟨y, hy⟩ : ∃ y, ts[j]? = some y := ⟨ts[j]'(by rw [← hm.out]; exact hjn), List.getElem?_eq_getElem _⟩
        obtain ⟨b, o, Aw, nw, cw, Am, nm, cm, An, nn, cn, rfl, hFb, hr1, hc1⟩ := (h1.keep (Kp.of_below hbel hF)).at_ hx
        obtain ⟨b2, o2, Bw, mw, dw, Bm, mm, dm, Bn, mn, dn, rfl, hGb, hr2, hc2⟩ := (h2.keep (Kp.of_below hbel hG)).at_ hy
        have hx' := hid hx
        have hy' := hid hy
        clear hx hy
        have hz := hbel.size
        have hS : SaIn wr.drew b (o + j * 5) (recCells x Aw nw cw Am nm cm An nn cn).toList b2 (o2 + j * 5) (recCells y Bw mw dw Bm mm dm Bn mn dn).toList := ⟨fun i v hv => hc1 i v hv, fun i v hv => hc2 i v hv⟩
        have q0 := fun (w' : World) (hh : SaIn w' b (o + j * 5) (recCells x Aw nw cw Am nm cm An nn cn).toList b2 (o2 + j * 5) (recCells y Bw mw dw Bm mm dm Bn mn dn).toList) => (show w'.cell? ⟨b, o + j * 5, none⟩ = some (.int .u64 (x.gen : Int)) from hh.x 0 _ rfl)
        have e0 := fun (w' : World) (hh : SaIn w' b (o + j * 5) (recCells x Aw nw cw Am nm cm An nn cn).toList b2 (o2 + j * 5) (recCells y Bw mw dw Bm mm dm Bn mn dn).toList) => (show w'.cell? ⟨b2, o2 + j * 5, none⟩ = some (.int .u64 (y.gen : Int)) from hh.y 0 _ rfl)
        have q1 := fun (w' : World) (hh : SaIn w' b (o + j * 5) (recCells x Aw nw cw Am nm cm An nn cn).toList b2 (o2 + j * 5) (recCells y Bw mw dw Bm mm dm Bn mn dn).toList) => (show w'.cell? ⟨b, o + j * 5 + 1, none⟩ = some (.int .u64 (x.seq : Int)) from hh.x 1 _ rfl)
        have e1 := fun (w' : World) (hh : SaIn w' b (o + j * 5) (recCells x Aw nw cw Am nm cm An nn cn).toList b2 (o2 + j * 5) (recCells y Bw mw dw Bm mm dm Bn mn dn).toList) => (show w'.cell? ⟨b2, o2 + j * 5 + 1, none⟩ = some (.int .u64 (y.seq : Int)) from hh.y 1 _ rfl)
        have q2 := fun (w' : World) (hh : SaIn w' b (o + j * 5) (recCells x Aw nw cw Am nm cm An nn cn).toList b2 (o2 + j * 5) (recCells y Bw mw dw Bm mm dm Bn mn dn).toList) => (show w'.cell? ⟨b, o + j * 5 + 2, none⟩ = some (.slice Aw nw cw) from hh.x 2 _ rfl)
        have e2 := fun (w' : World) (hh : SaIn w' b (o + j * 5) (recCells x Aw nw cw Am nm cm An nn cn).toList b2 (o2 + j * 5) (recCells y Bw mw dw Bm mm dm Bn mn dn).toList) => (show w'.cell? ⟨b2, o2 + j * 5 + 2, none⟩ = some (.slice Bw mw dw) from hh.y 2 _ rfl)
        have q3 := fun (w' : World) (hh : SaIn w' b (o + j * 5) (recCells x Aw nw cw Am nm cm An nn cn).toList b2 (o2 + j * 5) (recCells y Bw mw dw Bm mm dm Bn mn dn).toList) => (show w'.cell? ⟨b, o + j * 5 + 3, none⟩ = some (.slice Am nm cm) from hh.x 3 _ rfl)
        have e3 := fun (w' : World) (hh : SaIn w' b (o + j * 5) (recCells x Aw nw cw Am nm cm An nn cn).toList b2 (o2 + j * 5) (recCells y Bw mw dw Bm mm dm Bn mn dn).toList) => (show w'.cell? ⟨b2, o2 + j * 5 + 3, none⟩ = some (.slice Bm mm dm) from hh.y 3 _ rfl)
        have q4 := fun (w' : World) (hh : SaIn w' b (o + j * 5) (recCells x Aw nw cw Am nm cm An nn cn).toList b2 (o2 + j * 5) (recCells y Bw mw dw Bm mm dm Bn mn dn).toList) => (show w'.cell? ⟨b, o + j * 5 + 4, none⟩ = some (.slice An nn cn) from hh.x 4 _ rfl)
        have e4 := fun (w' : World) (hh : SaIn w' b (o + j * 5) (recCells x Aw nw cw Am nm cm An nn cn).toList b2 (o2 + j * 5) (recCells y Bw mw dw Bm mm dm Bn mn dn).toList) => (show w'.cell? ⟨b2, o2 + j * 5 + 4, none⟩ = some (.slice Bn mn dn) from hh.y 4 _ rfl)
        have hr1d := hr1.keep (w' := wr.drew) (fun _ _ => rfl)
        have hr2d := hr2.keep (w' := wr.drew) (fun _ _ => rfl)
        go_wp2_with fail
        first | (go_region_held3 (fun w' => SaIn w' b (o + j * 5) (recCells x Aw nw cw Am nm cm An nn cn).toList b2 (o2 + j * 5) (recCells y Bw mw dw Bm mm dm Bn mn dn).toList) (first | with_reducible exact hS | with_reducible exact hS2) (first | (go_at_call 29; refine (same_any F G x Aw nw cw Am nm cm An nn cn y Bw mw dw Bm mm dm Bn mn dn _ hr1d hr2d (fun k hk => by have := hF k hk; show k < wr.heap.size; omega) (fun k hk => by have := hG k hk; show k < wr.heap.size; omega)).mono ?_; rintro e w6 ⟨rfl, hb6⟩; have hS2 : SaIn w6 b (o + j * 5) (recCells x Aw nw cw Am nm cm An nn cn).toList b2 (o2 + j * 5) (recCells y Bw mw dw Bm mm dm Bn mn dn).toList := ⟨hS.x.keep (hb6.block _ (by have := hF _ hFb; show _ < wr.heap.size; omega)), hS.y.keep (hb6.block _ (by have := hG _ hGb; show _ < wr.heap.size; omega))⟩))) | fail
        have hb6' : Below w.heap.size w w6 := hbel.drew.trans (hb6.mono hz)
        by_cases hxy : x = y
        · have hdt : decide (x = y) = true := decide_eq_true hxy
          rw [hdt]
          have hxy' := hid hxy
          clear hxy hdt
          go_wp2_with fail
          go_roundw
          case rel => exact ⟨j + 1, by go_num, by omega, by show rs.take (j + 1) = ts.take (j + 1); rw [List.take_add_one, List.take_add_one, htk.out, hx'.out, hy'.out, hxy'.out], hb6'⟩
          case measure => simp [intOf]; omega
        · have hdt : decide (x = y) = false := decide_eq_false hxy
          rw [hdt]
          clear hdt
          go_wp2_with fail
          go_ret
          refine hno.out _ (fun e => hxy ?_) hb6'
          have := hx'.out
          rw [e, hy'.out] at this
          injection this with this
          exact this.symm
      · have hjn' : j = n := by omega
        subst hjn'
        go_wp2_with fail
        go_ret
        refine hyes.out _ ?_ hbel
        have := htk.out
        rwa [List.take_of_length_le (by rw [← hn.out]; omega), List.take_of_length_le (by rw [← hm.out]; omega)] at this
  · have hnm2 : ¬ (n : Int) = (m : Int) := by omega
    go_enter Try.func36, Try.ntmps36
    go_wp2_with fail
    go_ret
    exact hno.out _ (fun e => hnm (by rw [hn.out, hm.out, e])) (Below.refl _ _)

end Go.Proofs.Ytbcmpfdhpefdbaa
