/- The walk of the law RecordDecode: it returns true. -/
import Derived.Test.YtbcmpfdhpefdbaaSame29
import Derived.Test.YtbcmpfdhpefdbaaShort
set_option linter.unusedVariables false
set_option linter.unusedSimpArgs false
namespace Go.Proofs.Ytbcmpfdhpefdbaa
open Go.RowKit
attribute [local irreducible] Go.Calls

theorem Blk.rec5 {w : World} {g : Nat} {r : Rec} {Aw Am An : Option Addr} {nw cw nm cm nn cn : Nat} (h : Blk w g 27 (recCells r Aw nw cw Am nm cm An nn cn)) :
    w.cell? ⟨g, 0, none⟩ = some (.int .u64 (r.gen : Int)) ∧ w.cell? ⟨g, 1, none⟩ = some (.int .u64 (r.seq : Int)) ∧ w.cell? ⟨g, 2, none⟩ = some (.slice Aw nw cw) ∧ w.cell? ⟨g, 3, none⟩ = some (.slice Am nm cm) ∧ w.cell? ⟨g, 4, none⟩ = some (.slice An nn cn) :=
  ⟨h.cell 0, h.cell 1, h.cell 2, h.cell 3, h.cell 4⟩
theorem longB_false {ss : List (List UInt8)} (h : longB ss = false) : (∀ s ∈ ss, s.length ≤ 200) ∧ ss.length ≤ 100 := by
  unfold longB at h
  rw [Bool.or_eq_false_iff] at h
  refine ⟨fun s hs => ?_, ?_⟩
  · have := List.any_eq_false.1 h.1 s hs
    simp only [decide_eq_true_eq] at this
    omega
  · have := of_decide_eq_false h.2
    omega

set_option maxRecDepth 100000 in
set_option maxHeartbeats 1000000 in
theorem lawDecode_any (A : Option Addr) (n c : Nat) (ss : List (List UInt8)) (w : World) (h : RdS w (fun k => k < w.heap.size) A n ss) (hnc : n ≤ c) (hcm : c ≤ maxLen) :
    Calls Try.prog 6 #[.slice A n c] w (LawPost w) := by
  have hnm : n ≤ maxLen := Nat.le_trans hnc hcm
  go_enter Try.func6, Try.ntmps6
  go_wp2_with fail
  refine (awake27_any _).mono ?_
  rintro e w1 ⟨rfl, hb1⟩
  have h1 := h.keep (Kp.of_below hb1 (fun k hk => hk))
  have hs1 := hb1.size
  go_wp2_with fail
  refine (long_any (fun k => k < w.heap.size) A n c ss _ h1 hnm).mono ?_
  rintro e _ ⟨rfl, rfl⟩
  cases hlg : longB ss with
  | true =>
    go_wp2_with fail
    go_ret
    exact ⟨rfl, hb1⟩
  | false =>
    obtain ⟨hl1, hl2⟩ := longB_false hlg
    go_wp2_with fail
    refine (decode_any (fun k => k < w.heap.size) A n c ss _ h1 hnc hcm (fun s hs => by have := hl1 s hs; omega) (by omega) (fun k hk => by omega)).mono ?_
    rintro e w2 ⟨Aw, nw, cw, Am, nm, cm, An, nn, cn, rfl, hrec, hb2⟩
    obtain ⟨d, hd⟩ : ∃ d, d = decode ss := ⟨_, rfl⟩
    rw [← hd] at hrec ⊢
    have hd' := hid hd
    clear hd
    obtain ⟨r, kk, cc⟩ := d
    simp only at hrec ⊢
    have hs2 := hb2.size
    have hZ := Blk.new w2 27 #[.int .u64 0, .int .u64 0, .slice none 0 0, .slice none 0 0, .slice none 0 0]
    go_wp2_with ((with_reducible refine at_wl ?_); (refine wpList_stBlk rfl 27 _ _ rfl w2.heap.size 27 _ (recCells r Aw nw cw Am nm cm An nn cn) hZ rfl rfl info_rec rfl rfl ?_; intro w3 hb3 hg3; refine mk_stop ?_))
    have hbl3 : Below w2.heap.size w2 w3 := below_of_only ((World.grownBy_alloc w2 _ _).trans hg3) (Nat.le_refl _) (Nat.le_refl _)
    have hs3 := hbl3.size
    have hz3 := hb3.lt
    have hb3' := hid hb3
    have h3 := h1.keep (Kp.of_below (hb2.trans (hbl3.mono hs2)) (fun k hk => by omega))
    unfold Mk
    go_wp2_with fail
    refine (decode27_any (fun k => k < w.heap.size) A n c ss _ h3 hnc hcm (fun s hs => by have := hl1 s hs; omega) (by omega) (fun k hk => by omega)).mono ?_
    rintro e w4 ⟨Bw, mw, dw, Bm, mm, dm, Bn, mn, dn, rfl, hrec2, hb4⟩
    rw [← hd'.out] at hrec2 ⊢
    simp only at hrec2 ⊢
    have hs4 := hb4.size
    have hZ4 := Blk.new w4 27 #[.int .u64 0, .int .u64 0, .slice none 0 0, .slice none 0 0, .slice none 0 0]
    go_wp2_with ((with_reducible refine at_wl ?_); (refine wpList_stBlk rfl 27 _ _ rfl w4.heap.size 27 _ (recCells r Bw mw dw Bm mm dm Bn mn dn) hZ4 rfl rfl info_rec rfl rfl ?_; intro w5 hb5 hg5; refine mk_stop ?_))
    have hbl5 : Below w4.heap.size w4 w5 := below_of_only ((World.grownBy_alloc w4 _ _).trans hg5) (Nat.le_refl _) (Nat.le_refl _)
    have hs5 := hbl5.size
    obtain ⟨x0, x1, x2, x3, x4⟩ := ((hb3'.out.below hb4 hz3).below hbl5 (by omega)).rec5
    obtain ⟨y0, y1, y2, y3, y4⟩ := hb5.rec5
    have hr1 := (hrec.keep (Kp.of_below ((hbl3.trans (hb4.mono hs3)).trans (hbl5.mono (by omega))) (fun k hk => hk.1)))
    have hr2 := (hrec2.keep (Kp.of_below hbl5 (fun k hk => hk.1)))
    have hfin := ((((hb1.trans (hb2.mono hs1)).trans (hbl3.mono (by omega))).trans (hb4.mono (by omega))).trans (hbl5.mono (by omega)))
    unfold Mk
    go_wp2_with fail
    refine (same_any _ _ r Aw nw cw Am nm cm An nn cn r Bw mw dw Bm mm dm Bn mn dn _ hr1 hr2 (fun k hk => by have := hk.1; omega) (fun k hk => by have := hk.1; omega)).mono ?_
    rintro e w6 ⟨rfl, hb6⟩
    rw [decide_eq_true (rfl : r = r)]
    go_wp2_with fail
    go_ret
    exact ⟨rfl, hfin.trans (hb6.mono hfin.size)⟩

end Go.Proofs.Ytbcmpfdhpefdbaa
