/- The walk of the law RecordInspect: it returns true. -/
import Derived.Test.YtbcmpfdhpefdbaaAwake
set_option linter.unusedVariables false
set_option linter.unusedSimpArgs false
namespace Go.Proofs.Ytbcmpfdhpefdbaa
open Go.RowKit
attribute [local irreducible] Go.Calls

/-- what every law answers -/
def LawPost (w : World) (e : Ending) (w' : World) : Prop := e = .returned (.bool true) ∧ Below w.heap.size w w'

theorem beq_strB (l : List UInt8) : ((strB l).toList == (strB l).toList) = true := by simp

set_option maxRecDepth 100000 in
set_option maxHeartbeats 1000000 in
theorem lawInspect_any (A : Option Addr) (n c : Nat) (b : List UInt8) (w : World) (h : RdB w (fun k => k < w.heap.size) A n b) (hnc : n ≤ c) (hcm : c ≤ maxLen) :
    Calls Try.prog 4 #[.slice A n c] w (LawPost w) := by
  have hn := hid h.1
  by_cases hl : 200 < n
  · have hl2 : (200 : Int) < (n : Int) := by omega
    go_enter Try.func4, Try.ntmps4
    go_wp2_with fail
    refine (awake27_any _).mono ?_
    rintro e w1 ⟨rfl, hb1⟩
    go_wp2_with fail
    go_ret
    exact ⟨rfl, hb1⟩
  · have hl2 : ¬ (200 : Int) < (n : Int) := by omega
    have hl3 : (n : Int) ≤ 200 := by omega
    go_enter Try.func4, Try.ntmps4
    go_wp2_with fail
    refine (awake27_any _).mono ?_
    rintro e w1 ⟨rfl, hb1⟩
    have h1 := h.keep (Kp.of_below hb1 (fun k hk => hk))
    have hs1 := hb1.size
    go_wp2_with fail
    refine (insp_any (fun k => k < w.heap.size) A n c b _ h1 hnc hcm (by rw [← hn.out]; omega) (fun k hk => by omega)).mono ?_
    rintro e w2 ⟨A2, n2, c2, rfl, hnc2, hcm2, hrd2, hb2⟩
    obtain ⟨x, hx⟩ : ∃ x, x = insp b := ⟨_, rfl⟩
    rw [← hx] at hrd2 ⊢
    have hx' := hid hx
    clear hx
    obtain ⟨xg, xs, xp, xq, xch, xc⟩ := x
    simp only [Ins.cells] at hrd2 ⊢
    have hZ := Blk.new w2 36 zHd
    have hs2 := hb2.size
    go_wp2_with (refine wpList_stBlk rfl 36 _ _ rfl w2.heap.size 36 _ #[.int .u64 (xg : Int), .int .u64 (xs : Int), .int .i64 (xp : Int), .int .i64 (xq : Int)] hZ rfl rfl info_head rfl rfl ?_; intro w3 hb3 hg3; refine mk_stop ?_)
    have hbl3 : Below w2.heap.size w2 w3 := below_of_only ((World.grownBy_alloc w2 _ _).trans hg3) (Nat.le_refl _) (Nat.le_refl _)
    have hs3 := hbl3.size
    have hb3' := hid hb3
    have hz3 := hb3.lt
    have h3 := h1.keep (Kp.of_below (hb2.trans (hbl3.mono hs2)) (fun k hk => by omega))
    unfold Mk
    go_wp2_with fail
    refine (insp9_any (fun k => k < w.heap.size) A n c b _ h3 hnc hcm (by rw [← hn.out]; omega) (fun k hk => by omega)).mono ?_
    rintro e w4 ⟨A4, n4, c4, rfl, hnc4, hcm4, hrd4, hb4⟩
    rw [← hx'.out] at hrd4 ⊢
    simp only [Ins.cells] at hrd4 ⊢
    have hs4 := hb4.size
    have hZ4 := Blk.new w4 39 zHd
    go_wp2_with (refine wpList_stBlk rfl 39 _ _ rfl w4.heap.size 39 _ #[.int .u64 (xg : Int), .int .u64 (xs : Int), .int .i64 (xp : Int), .int .i64 (xq : Int)] hZ4 rfl rfl info_head9 rfl rfl ?_; intro w5 hb5 hg5; refine mk_stop ?_)
    have hbl5 : Below w4.heap.size w4 w5 := below_of_only ((World.grownBy_alloc w4 _ _).trans hg5) (Nat.le_refl _) (Nat.le_refl _)
    have hq5 := (hb3'.out.below hb4 hz3).below hbl5 (by omega)
    have x0 : w5.cell? ⟨w2.heap.size, 0, none⟩ = some (.int .u64 (xg : Int)) := hq5.cell 0
    have x1 : w5.cell? ⟨w2.heap.size, 1, none⟩ = some (.int .u64 (xs : Int)) := hq5.cell 1
    have x2 : w5.cell? ⟨w2.heap.size, 2, none⟩ = some (.int .i64 (xp : Int)) := hq5.cell 2
    have x3 : w5.cell? ⟨w2.heap.size, 3, none⟩ = some (.int .i64 (xq : Int)) := hq5.cell 3
    have y0 : w5.cell? ⟨w4.heap.size, 0, none⟩ = some (.int .u64 (xg : Int)) := hb5.cell 0
    have y1 : w5.cell? ⟨w4.heap.size, 1, none⟩ = some (.int .u64 (xs : Int)) := hb5.cell 1
    have y2 : w5.cell? ⟨w4.heap.size, 2, none⟩ = some (.int .i64 (xp : Int)) := hb5.cell 2
    have y3 : w5.cell? ⟨w4.heap.size, 3, none⟩ = some (.int .i64 (xq : Int)) := hb5.cell 3
    have hv2 := (hrd2.keep (Kp.of_below ((hbl3.trans (hb4.mono hs3)).trans (hbl5.mono (by omega))) (fun k hk => hk.1))).conv c2
    have hv4 := (hrd4.keep (Kp.of_below hbl5 (fun k hk => hk.1))).conv c4
    have hbe := beq_strB xch
    unfold Mk
    go_wp2_with fail
    go_ret
    exact ⟨rfl, ((((hb1.trans (hb2.mono hs1)).trans (hbl3.mono (by omega))).trans (hb4.mono (by omega))).trans (hbl5.mono (by omega)))⟩

end Go.Proofs.Ytbcmpfdhpefdbaa
