/- The contracts of both Fits. -/
import Derived.Test.YtbcmpfdhpefdbaaKX
import Derived.Test.YtbcmpfdhpefdbaaLogP
set_option linter.unusedVariables false
set_option linter.unusedSimpArgs false
namespace Go.Proofs.Ytbcmpfdhpefdbaa
open Go.RowKit
attribute [local irreducible] Go.Calls

set_option maxRecDepth 100000 in
set_option maxHeartbeats 1000000 in
theorem fits_any (F : Nat → Prop) (area used : Int) (r : Rec) (Aw : Option Addr) (nw cw : Nat) (Am : Option Addr) (nm cm : Nat) (An : Option Addr) (nn cn : Nat) (w : World) (h : RecIn w F r Aw nw cw Am nm cm An nn cn) (hF : ∀ k, F k → k < w.heap.size) (ha : I64 area) (hu : I64 used) :
    Calls Try.prog 40 #[.int .i64 area, .int .i64 used, .agg (recCells r Aw nw cw Am nm cm An nn cn)] w fun e w' => e = .returned (.bool (fitsB area used r)) ∧ Below w.heap.size w w' := by
  have hfin := hid (show ∀ b : Bool, b = fitsB area used r → (Ending.returned (.bool b) = .returned (.bool (fitsB area used r))) from fun b h => by rw [h])
  have hbox := Blk.new w 27 (recCells r Aw nw cw Am nm cm An nn cn)
  have hb0 : Below w.heap.size w (w.alloc (.cells (recCells r Aw nw cw Am nm cm An nn cn) 27)) := (Below.refl _ _).alloc (Nat.le_refl _) _
  have h1 := h.keep (Kp.of_below hb0 hF)
  obtain ⟨ha1, ha2⟩ := ha
  obtain ⟨hu1, hu2⟩ := hu
  go_enter Try.func40, Try.ntmps40
  go_wp2_with (refine wpList_ldBlk rfl 27 _ rfl w.heap.size 27 _ hbox _ rfl Try.underlying27 rfl info_rec ?_)
  refine (encode_any F r Aw nw cw Am nm cm An nn cn _ h1 (fun k hk => by have := hF k hk; simp; omega)).mono ?_
  rintro e w2 ⟨v, rfl, hown, hb2⟩
  have hbel : Below w.heap.size w w2 := hb0.trans (hb2.mono (by simp))
  obtain ⟨A2, c2, rfl, hc2, hm2⟩ := hown.form
  clear hown h1 hbox hb0 hb2
  cases hv : r.vld with
  | false =>
    rw [encE, encP, hv]
    have hv' := hid hv
    clear hv
    simp only [Bool.false_eq_true, if_false, List.length_nil]
    go_wp2_with fail
    go_ret
    exact ⟨hfin.out _ (by simp [fitsB, hv'.out]), hbel⟩
  | true =>
    rw [encE, encP, hv]
    have hv' := hid hv
    clear hv
    simp only [if_true]
    have hl := hid (show (sectors r).length ≤ 200 from sectors_le h.ok hv'.out)
    obtain ⟨m, hm⟩ : ∃ m, m = (sectors r).length := ⟨_, rfl⟩
    rw [← hm] at hl ⊢
    have hm' := hid hm
    clear hm
    have hl2 := hl.out
    by_cases k1 : 0 ≤ area
    · by_cases k2 : 0 ≤ used
      · by_cases k3 : used ≤ area
        · by_cases k4 : (m : Int) ≤ area - used
          · go_wp2_with fail
            go_ret
            exact ⟨hfin.out _ (by simp [fitsB, hv'.out, ← hm'.out, k1, k2, k3, k4]), hbel⟩
          · go_wp2_with fail
            go_ret
            exact ⟨hfin.out _ (by simp [fitsB, hv'.out, ← hm'.out, k1, k2, k3, k4]), hbel⟩
        · go_wp2_with fail
          go_ret
          exact ⟨hfin.out _ (by simp [fitsB, k1, k2, k3]; try omega), hbel⟩
      · go_wp2_with fail
        go_ret
        exact ⟨hfin.out _ (by simp [fitsB, k1, k2]; try omega), hbel⟩
    · go_wp2_with fail
      go_ret
      exact ⟨hfin.out _ (by simp [fitsB, k1]; try omega), hbel⟩

set_option maxRecDepth 100000 in
set_option maxHeartbeats 1000000 in
theorem fits28_any (F : Nat → Prop) (area used : Int) (r : Rec) (Aw : Option Addr) (nw cw : Nat) (Am : Option Addr) (nm cm : Nat) (An : Option Addr) (nn cn : Nat) (w : World) (h : RecIn w F r Aw nw cw Am nm cm An nn cn) (hF : ∀ k, F k → k < w.heap.size) (ha : I64 area) (hu : I64 used) :
    Calls Try.prog 41 #[.int .i64 area, .int .i64 used, .agg (recCells r Aw nw cw Am nm cm An nn cn)] w fun e w' => e = .returned (.bool (fitsB area used r)) ∧ Below w.heap.size w w' := by
  have hfin := hid (show ∀ b : Bool, b = fitsB area used r → (Ending.returned (.bool b) = .returned (.bool (fitsB area used r))) from fun b h => by rw [h])
  have hbox := Blk.new w 27 (recCells r Aw nw cw Am nm cm An nn cn)
  have hb0 : Below w.heap.size w (w.alloc (.cells (recCells r Aw nw cw Am nm cm An nn cn) 27)) := (Below.refl _ _).alloc (Nat.le_refl _) _
  have h1 := h.keep (Kp.of_below hb0 hF)
  obtain ⟨ha1, ha2⟩ := ha
  obtain ⟨hu1, hu2⟩ := hu
  go_enter Try.func41, Try.ntmps41
  go_wp2_with (refine wpList_ldBlk rfl 27 _ rfl w.heap.size 27 _ hbox _ rfl Try.underlying27 rfl info_rec ?_)
  refine (encode27_any F r Aw nw cw Am nm cm An nn cn _ h1 (fun k hk => by have := hF k hk; simp; omega)).mono ?_
  rintro e w2 ⟨v, rfl, hown, hb2⟩
  have hbel : Below w.heap.size w w2 := hb0.trans (hb2.mono (by simp))
  obtain ⟨A2, c2, rfl, hc2, hm2⟩ := hown.form
  clear hown h1 hbox hb0 hb2
  cases hv : r.vld with
  | false =>
    rw [encE, encP, hv]
    have hv' := hid hv
    clear hv
    simp only [Bool.false_eq_true, if_false, List.length_nil]
    go_wp2_with fail
    go_ret
    exact ⟨hfin.out _ (by simp [fitsB, hv'.out]), hbel⟩
  | true =>
    rw [encE, encP, hv]
    have hv' := hid hv
    clear hv
    simp only [if_true]
    have hl := hid (show (sectors r).length ≤ 200 from sectors_le h.ok hv'.out)
    obtain ⟨m, hm⟩ : ∃ m, m = (sectors r).length := ⟨_, rfl⟩
    rw [← hm] at hl ⊢
    have hm' := hid hm
    clear hm
    have hl2 := hl.out
    by_cases k1 : 0 ≤ area
    · by_cases k2 : 0 ≤ used
      · by_cases k3 : used ≤ area
        · by_cases k4 : (m : Int) ≤ area - used
          · go_wp2_with fail
            go_ret
            exact ⟨hfin.out _ (by simp [fitsB, hv'.out, ← hm'.out, k1, k2, k3, k4]), hbel⟩
          · go_wp2_with fail
            go_ret
            exact ⟨hfin.out _ (by simp [fitsB, hv'.out, ← hm'.out, k1, k2, k3, k4]), hbel⟩
        · go_wp2_with fail
          go_ret
          exact ⟨hfin.out _ (by simp [fitsB, k1, k2, k3]; try omega), hbel⟩
      · go_wp2_with fail
        go_ret
        exact ⟨hfin.out _ (by simp [fitsB, k1, k2]; try omega), hbel⟩
    · go_wp2_with fail
      go_ret
      exact ⟨hfin.out _ (by simp [fitsB, k1]; try omega), hbel⟩

end Go.Proofs.Ytbcmpfdhpefdbaa
