/- The walks of the laws LogareaScan, LogareaSectors, LogareaFits, LogareaJoin: they return true. -/
import Derived.Test.YtbcmpfdhpefdbaaAwk28
import Derived.Test.YtbcmpfdhpefdbaaKS
import Derived.Test.YtbcmpfdhpefdbaaFits
import Derived.Test.YtbcmpfdhpefdbaaJoin
import Derived.Test.YtbcmpfdhpefdbaaSameAll
set_option linter.unusedVariables false
set_option linter.unusedSimpArgs false
namespace Go.Proofs.Ytbcmpfdhpefdbaa
open Go.RowKit
attribute [local irreducible] Go.Calls

theorem largeB_false {ss : List (List UInt8)} (h : largeB ss = false) : (∀ s ∈ ss, s.length ≤ 200) ∧ ss.length ≤ 120 := by
  unfold largeB at h
  rw [Bool.or_eq_false_iff] at h
  refine ⟨fun s hs => ?_, ?_⟩
  · have := List.any_eq_false.1 h.1 s hs
    simp only [decide_eq_true_eq] at this
    omega
  · have := of_decide_eq_false h.2
    omega
theorem fewB_true {rs : List Rec} (h : fewB rs = true) : rs.length ≤ 20 := by
  unfold fewB at h
  rw [Bool.and_eq_true] at h
  exact of_decide_eq_true h.2

set_option maxRecDepth 100000 in
set_option maxHeartbeats 1000000 in
theorem lawScan_any (A : Option Addr) (n c : Nat) (ss : List (List UInt8)) (gen : Nat) (w : World) (h : RdS w (fun k => k < w.heap.size) A n ss) (hnil : A = none → c = 0) (hnc : n ≤ c) (hcm : c ≤ maxLen) (hg : gen < 18446744073709551616) :
    Calls Try.prog 10 #[.slice A n c, .int .u64 (gen : Int)] w (LawPost w) := by
  have hnm : n ≤ maxLen := Nat.le_trans hnc hcm
  go_enter Try.func10, Try.ntmps10
  go_wp2_with fail
  refine (awake28_any _).mono ?_
  rintro e w1 ⟨rfl, hb1⟩
  have h1 := h.keep (Kp.of_below hb1 (fun k hk => hk))
  have hs1 := hb1.size
  go_wp2_with fail
  refine (large_any (fun k => k < w.heap.size) A n c ss _ h1 hnm).mono ?_
  rintro e _ ⟨rfl, rfl⟩
  cases hlg : largeB ss with
  | true =>
    go_wp2_with fail
    go_ret
    exact ⟨rfl, hb1⟩
  | false =>
    obtain ⟨hl1, hl2⟩ := largeB_false hlg
    have hl1' := hid hl1
    clear hlg hl1
    go_wp2_with fail
    refine (scan_any (fun k => k < w.heap.size) A n c ss gen _ h1 hnc hcm (fun s hs => by have := hl1'.out s hs; omega) (by omega) (fun k hk => by omega)).mono ?_
    rintro e w2 ⟨v2, rfl, hown2, hb2⟩
    obtain ⟨A2, c2, rfl, hc2, hm2⟩ := hown2.form
    have hs2 := hb2.size
    have h2 := h1.keep (Kp.of_below hb2 (fun k hk => by omega))
    have hrd2 := hid hown2.rd
    clear hown2
    go_wp2_with fail
    refine (scan28_any (fun k => k < w.heap.size) A n c ss gen _ h2 hnil hnc hcm (fun s hs => by have := hl1'.out s hs; omega) (by omega) (fun k hk => by omega)).mono ?_
    rintro e w3 ⟨v3, rfl, hown3, hb3⟩
    obtain ⟨A3, c3, rfl, hc3, hm3⟩ := hown3.form
    have hs3 := hb3.size
    have hrd3 := hid hown3.rd
    have hrd2' := hid (hrd2.out.keep (Kp.of_below hb3 (fun k hk => hk.1)))
    have hbel3 := (hb1.trans (hb2.mono hs1)).trans (hb3.mono (by omega))
    have hlen : (scan ss gen).1.length ≤ ss.length := scan_len ss gen
    clear hown3
    go_wp2_with fail
    refine (sameAll_any _ _ A2 A3 _ c2 _ c3 (scan ss gen).1 (scan ss gen).1 _ hrd2'.out hrd3.out (by omega) (fun k hk => by have := hk.1; omega) (fun k hk => hk.1)).mono ?_
    rintro e w4 ⟨rfl, hb4⟩
    rw [decide_eq_true (rfl : (scan ss gen).1 = (scan ss gen).1)]
    go_wp2_with fail
    go_ret
    exact ⟨by simp, hbel3.trans (hb4.mono hbel3.size)⟩

set_option maxRecDepth 100000 in
set_option maxHeartbeats 1000000 in
theorem lawSectors_any (A : Option Addr) (n c : Nat) (rs : List Rec) (w : World) (h : RdR w (fun k => k < w.heap.size) A n rs) (hnc : n ≤ c) (hcm : c ≤ maxLen) :
    Calls Try.prog 14 #[.slice A n c] w (LawPost w) := by
  have hnm : n ≤ maxLen := Nat.le_trans hnc hcm
  have hn := hid h.1
  go_enter Try.func14, Try.ntmps14
  go_wp2_with fail
  refine (awake28_any _).mono ?_
  rintro e w1 ⟨rfl, hb1⟩
  have h1 := h.keep (Kp.of_below hb1 (fun k hk => hk))
  have hs1 := hb1.size
  go_wp2_with fail
  refine (few_any (fun k => k < w.heap.size) A n c rs _ h1 hnm (fun k hk => by omega)).mono ?_
  rintro e w2 ⟨rfl, hb2⟩
  have hs2 := hb2.size
  have hbel2 := hb1.trans (hb2.mono hs1)
  cases hlg : fewB rs with
  | false =>
    clear hlg
    go_wp2_with fail
    go_ret
    exact ⟨rfl, hbel2⟩
  | true =>
    have hl := fewB_true hlg
    have hn2 : n ≤ 20 := by rw [hn.out]; exact hl
    clear hlg hl
    have h2 := h1.keep (Kp.of_below hb2 (fun k hk => by omega))
    go_wp2_with fail
    refine (secs_any (fun k => k < w.heap.size) A n c rs _ h2 (by omega) (fun k hk => by omega)).mono ?_
    rintro e w3 ⟨v3, rfl, hown3, hb3⟩
    obtain ⟨A3, c3, rfl, hc3, hm3⟩ := hown3.form
    have hs3 := hb3.size
    have hbel3 := hbel2.trans (hb3.mono (by omega))
    have h3 := h2.keep (Kp.of_below hb3 (fun k hk => by omega))
    have hrd3 := hid hown3.rd
    clear hown3
    go_wp2_with fail
    refine (secs28_any (fun k => k < w.heap.size) A n c rs _ h3 (by omega) (fun k hk => by omega)).mono ?_
    rintro e w4 ⟨v4, rfl, hown4, hb4⟩
    obtain ⟨A4, c4, rfl, hc4, hm4⟩ := hown4.form
    have hs4 := hb4.size
    have hbel4 := hbel3.trans (hb4.mono (by omega))
    have h4 := h3.keep (Kp.of_below hb4 (fun k hk => by omega))
    have hrd4 := hid hown4.rd
    have hrd3' := hid (hrd3.out.keep (Kp.of_below hb4 (fun k hk => hk.1)))
    have hbd : (secsA rs).length ≤ 1000000 := secsA_len h.ok (by rw [← hn.out]; omega)
    clear hown4
    go_wp2_with fail
    refine (sameSectors_any _ _ A3 A4 _ c3 _ c4 (secsA rs) (secsA rs) _ hrd3'.out hrd4.out hc3 hc4 (by omega) (by omega) (fun k hk => by have := hk.1; omega) (fun k hk => hk.1)).mono ?_
    rintro e w5 ⟨rfl, hb5⟩
    rw [decide_eq_true (rfl : secsA rs = secsA rs)]
    have hs5 := hb5.size
    have hbel5 := hbel4.trans (hb5.mono (by omega))
    have h5 := h4.keep (Kp.of_below hb5 (fun k hk => by omega))
    go_wp2_with fail
    refine (logValid_any (fun k => k < w.heap.size) A n c rs _ h5 (by omega) (fun k hk => by omega)).mono ?_
    rintro e w6 ⟨rfl, hb6⟩
    have hs6 := hb6.size
    have hbel6 := hbel5.trans (hb6.mono (by omega))
    have h6 := h5.keep (Kp.of_below hb6 (fun k hk => by omega))
    go_wp2_with fail
    refine (logValid28_any (fun k => k < w.heap.size) A n c rs _ h6 (by omega) (fun k hk => by omega)).mono ?_
    rintro e w7 ⟨rfl, hb7⟩
    have hbel7 := hbel6.trans (hb7.mono hbel6.size)
    go_wp2_with fail
    go_ret
    exact ⟨by simp, hbel7⟩

set_option maxRecDepth 100000 in
set_option maxHeartbeats 1000000 in
theorem lawFits_any (area used : Int) (r : Rec) (Aw : Option Addr) (nw cw : Nat) (Am : Option Addr) (nm cm : Nat) (An : Option Addr) (nn cn : Nat) (w : World) (ha : I64 area) (hu : I64 used) (h : RecIn w (fun k => k < w.heap.size) r Aw nw cw Am nm cm An nn cn) :
    Calls Try.prog 12 #[.int .i64 area, .int .i64 used, .agg (recCells r Aw nw cw Am nm cm An nn cn)] w (LawPost w) := by
  have hbox := Blk.new w 27 (recCells r Aw nw cw Am nm cm An nn cn)
  have hbel0 : Below w.heap.size w (w.alloc (.cells (recCells r Aw nw cw Am nm cm An nn cn) 27)) := (Below.refl _ _).alloc (Nat.le_refl _) _
  go_enter Try.func12, Try.ntmps12
  go_wp2_with fail
  refine (awake28_any _).mono ?_
  rintro e w1 ⟨rfl, hb1⟩
  have hs1 := hb1.size
  have hbx1 := hid (hbox.below hb1 hbox.lt)
  have hbw1 := hbel0.trans (hb1.mono hbel0.size)
  have hz1 := hbw1.size
  have hx1 := hbx1.out.lt
  go_wp2_with ((with_reducible refine at_wl ?_); (refine wpList_ldBlk rfl 27 _ rfl w.heap.size 27 _ hbx1.out _ rfl Try.underlying27 rfl info_rec ?_))
  refine (short_any (fun k => k < w.heap.size) r Aw nw cw Am nm cm An nn cn _ (h.keep (Kp.of_below hbw1 (fun k hk => hk)))).mono ?_
  rintro e w2 ⟨rfl, hb2⟩
  have hbw2 := hbw1.trans (hb2.mono hz1)
  have hbx2 := hid (hbx1.out.below hb2 hx1)
  have hz2 := hb2.size
  cases hsh : r.short with
  | false =>
    go_wp2_with fail
    go_ret
    exact ⟨rfl, hbw2⟩
  | true =>
    clear hsh
    have hrec2 := (h.keep (Kp.of_below hbw2 (fun k hk => hk))).keep (w' := w2.drew) (fun _ _ => rfl)
    have hS : ∀ w4 : World, Below w2.heap.size w2.drew w4 → Blk w4 w.heap.size 27 (recCells r Aw nw cw Am nm cm An nn cn) := fun w4 hb4 => hbx2.out.drew.below hb4 hbx2.out.lt
    go_wp2_with fail
    refine wp_region_held_drew (S := (fun w4 : World => Blk w4 w.heap.size 27 (recCells r Aw nw cw Am nm cm An nn cn))) (by kernel_rfl) (by exact hS _ (Below.refl _ _)) (fun hHeld => ?_)
    refine wpAnyH_tk (i := 0) (v := ?_) rfl (by kernel_rfl) (fun _ _ _ h => h) (by rfl) ?_ (by assumption) ?_
    rotate_left
    · (intro w hSw; (try dsimp only at hSw); go_simp; (try with_reducible rfl))
    (try simp only [Act.put, List.setIfInBounds_toArray, List.set_cons_zero, List.set_cons_succ])
    refine wpAnyH_tk (i := 1) (v := ?_) rfl (by kernel_rfl) (fun _ _ _ h => h) (by rfl) ?_ (by assumption) ?_
    rotate_left
    · (intro w hSw; (try dsimp only at hSw); go_simp; (try with_reducible rfl))
    (try simp only [Act.put, List.setIfInBounds_toArray, List.set_cons_zero, List.set_cons_succ])
    refine wpAnyH_tk (i := 4) (v := ?_) rfl (by kernel_rfl) (fun _ _ _ h => h) (by rfl) ?_ (by assumption) ?_
    rotate_left
    · (intro w hSw; (try dsimp only at hSw); go_simp; (try with_reducible rfl))
    (try simp only [Act.put, List.setIfInBounds_toArray, List.set_cons_zero, List.set_cons_succ])
    refine wpAnyH_tk (i := 5) (v := ?_) rfl (by kernel_rfl) (fun _ _ _ h => h) (by rfl) ?_ (by assumption) ?_
    rotate_left
    · (intro w hSw; (try dsimp only at hSw); go_simp; (try with_reducible rfl))
    (try simp only [Act.put, List.setIfInBounds_toArray, List.set_cons_zero, List.set_cons_succ])
    refine wpAnyH_tk (i := 2) (v := ?_) rfl (by kernel_rfl) (fun _ _ _ h => h) (by rfl) ?_ (by assumption) ?_
    rotate_left
    · (intro w hSw; refine (exec_ldBlk _ _ (by rfl) _ _ _ hSw _ (by rfl) Try.underlying27 rfl info_rec).trans ?_; with_reducible rfl)
    (try simp only [Act.put, List.setIfInBounds_toArray, List.set_cons_zero, List.set_cons_succ])
    refine wpAnyH_tk (i := 6) (v := ?_) rfl (by kernel_rfl) (fun _ _ _ h => h) (by rfl) ?_ (by assumption) ?_
    rotate_left
    · (intro w hSw; refine (exec_ldBlk _ _ (by rfl) _ _ _ hSw _ (by rfl) Try.underlying27 rfl info_rec).trans ?_; with_reducible rfl)
    (try simp only [Act.put, List.setIfInBounds_toArray, List.set_cons_zero, List.set_cons_succ])
    refine wpAnyH_cl (i := 3) rfl (by kernel_rfl) (fun K hK => ?_)
    go_simp
    (refine (fits_any (fun k => k < w.heap.size) area used r Aw nw cw Am nm cm An nn cn _ hrec2 (fun k hk => by show k < w2.heap.size; omega) ha hu).mono ?_; rintro e w4 ⟨rfl, hb4⟩)
    (try (go_wp2_with fail))
    refine hK.out _ _ (by exact hS _ hb4) (fun hHeld => ?_)
    clear hK K
    (try simp only [Act.put, List.setIfInBounds_toArray, List.set_cons_zero, List.set_cons_succ])
    have hrec4 := hrec2.keep (Kp.of_below hb4 (fun k hk => by show k < w2.heap.size; omega))
    have hs4 : w2.heap.size ≤ w4.heap.size := hb4.size
    refine wpAnyH_cl (i := 7) rfl (by kernel_rfl) (fun K hK => ?_)
    go_simp
    (refine (fits28_any (fun k => k < w.heap.size) area used r Aw nw cw Am nm cm An nn cn _ hrec4 (fun k hk => by omega) ha hu).mono ?_; rintro e w5 ⟨rfl, hb5⟩)
    (try (go_wp2_with fail))
    refine hK.out _ _ (by exact hS _ (hb4.trans (hb5.mono hs4))) (fun hHeld => ?_)
    clear hK K
    (try simp only [Act.put, List.setIfInBounds_toArray, List.set_cons_zero, List.set_cons_succ])
    refine wpAnyH_tk (i := 8) (v := ?_) rfl (by kernel_rfl) (fun _ _ _ h => h) (by rfl) ?_ (by assumption) ?_
    rotate_left
    · (intro w hSw; (try dsimp only at hSw); go_simp; (try with_reducible rfl))
    (try simp only [Act.put, List.setIfInBounds_toArray, List.set_cons_zero, List.set_cons_succ])
    refine wpAnyH_tk (i := 9) (v := ?_) rfl (by kernel_rfl) (fun _ _ _ h => h) (by rfl) ?_ (by assumption) ?_
    rotate_left
    · (intro w hSw; (try dsimp only at hSw); go_simp; (try with_reducible rfl))
    (try simp only [Act.put, List.setIfInBounds_toArray, List.set_cons_zero, List.set_cons_succ])
    refine wpAnyH_done (by kernel_rfl) ?_ _
    have hbel5 := (hbw2.drew.trans (hb4.mono (show w.heap.size ≤ w2.heap.size by omega))).trans (hb5.mono (by omega))
    go_wp2
    go_ret
    exact ⟨by simp, hbel5⟩

end Go.Proofs.Ytbcmpfdhpefdbaa
