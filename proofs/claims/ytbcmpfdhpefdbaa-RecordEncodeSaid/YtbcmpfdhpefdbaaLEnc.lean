/- The walk of the law RecordEncode: it returns true. -/
import Derived.Test.YtbcmpfdhpefdbaaLInsp
import Derived.Test.YtbcmpfdhpefdbaaShort
set_option linter.unusedVariables false
set_option linter.unusedSimpArgs false
namespace Go.Proofs.Ytbcmpfdhpefdbaa
open Go.RowKit
attribute [local irreducible] Go.Calls

set_option maxRecDepth 100000 in
set_option maxHeartbeats 1000000 in
theorem lawEncode_any (r : Rec) (Aw : Option Addr) (nw cw : Nat) (Am : Option Addr) (nm cm : Nat) (An : Option Addr) (nn cn : Nat) (w : World) (h : RecIn w (fun k => k < w.heap.size) r Aw nw cw Am nm cm An nn cn) :
    Calls Try.prog 3 #[.agg (recCells r Aw nw cw Am nm cm An nn cn)] w (LawPost w) := by
  have hbox := Blk.new w 27 (recCells r Aw nw cw Am nm cm An nn cn)
  have hbel0 : Below w.heap.size w (w.alloc (.cells (recCells r Aw nw cw Am nm cm An nn cn) 27)) := (Below.refl _ _).alloc (Nat.le_refl _) _
  go_enter Try.func3, Try.ntmps3
  go_wp2_with fail
  refine (awake27_any _).mono ?_
  rintro e w1 ⟨rfl, hb1⟩
  have hs1 := hb1.size
  have hbx1 := hid (hbox.below hb1 hbox.lt)
  have hbw1 := hbel0.trans (hb1.mono hbel0.size)
  have hz1 := hbw1.size
  have hx1 := hbx1.out.lt
  go_wp2_with ((with_reducible refine at_wl ?_); (refine wpList_ldBlk rfl 27 _ rfl w.heap.size 27 _ hbx1.out _ rfl Try.underlying27 rfl info_rec ?_))
  refine (short_any (fun k => k < w.heap.size) r Aw nw cw Am nm cm An nn cn _ (h.keep (Kp.of_below hbw1 (fun k hk => hk)))).mono ?_
  rintro e w2 ⟨rfl, hb2⟩
  have hbw2 := hbw1.trans (hb2.mono hz1)
  have hbx2 := hid (hbx1.out.below hb2 hx1)
  have hz2 := hb2.size
  cases hsh : r.short with
  | false =>
    go_wp2_with fail
    go_ret
    exact ⟨rfl, hbw2⟩
  | true =>
    go_wp2_with ((with_reducible refine at_wl ?_); (refine wpList_ldBlk rfl 27 _ rfl w.heap.size 27 _ hbx2.out _ rfl Try.underlying27 rfl info_rec ?_))
    refine (encode_any (fun k => k < w.heap.size) r Aw nw cw Am nm cm An nn cn _ (h.keep (Kp.of_below hbw2 (fun k hk => hk))) (fun k hk => by omega)).mono ?_
    rintro e w3 ⟨v3, rfl, hown3, hb3⟩
    have hbw3 := hbw2.trans (hb3.mono (by omega))
    have hbx3 := hid (hbx2.out.below hb3 (by omega))
    have hz3 := hb3.size
    obtain ⟨A3, c3, rfl, hc3, hm3⟩ := hown3.form
    go_wp2_with ((with_reducible refine at_wl ?_); (refine wpList_ldBlk rfl 27 _ rfl w.heap.size 27 _ hbx3.out _ rfl Try.underlying27 rfl info_rec ?_))
    refine (encode27_any (fun k => k < w.heap.size) r Aw nw cw Am nm cm An nn cn _ (h.keep (Kp.of_below hbw3 (fun k hk => hk))) (fun k hk => by omega)).mono ?_
    rintro e w4 ⟨v4, rfl, hown4, hb4⟩
    have hbw4 := hbw3.trans (hb4.mono (by omega))
    have hbx4 := hbx3.out.below hb4 (by omega)
    have hz4 := hb4.size
    obtain ⟨A4, c4, rfl, hc4, hm4⟩ := hown4.form
    obtain ⟨hes, _⟩ := encP_small h.ok
    have hrd3 := hown3.rd.keep (Kp.of_below hb4 (fun k hk => hk.1))
    have hrd4 := hown4.rd
    unfold recCells at hbx4
    have q0 := fun (w' : World) (hh : Blk w' w.heap.size 27 #[.int .u64 (r.gen : Int), .int .u64 (r.seq : Int), .slice Aw nw cw, .slice Am nm cm, .slice An nn cn]) => (show w'.cell? ⟨w.heap.size, 0, none⟩ = some (.int .u64 (r.gen : Int)) from hh.cell 0)
    have q1 := fun (w' : World) (hh : Blk w' w.heap.size 27 #[.int .u64 (r.gen : Int), .int .u64 (r.seq : Int), .slice Aw nw cw, .slice Am nm cm, .slice An nn cn]) => (show w'.cell? ⟨w.heap.size, 1, none⟩ = some (.int .u64 (r.seq : Int)) from hh.cell 1)
    have q2 := fun (w' : World) (hh : Blk w' w.heap.size 27 #[.int .u64 (r.gen : Int), .int .u64 (r.seq : Int), .slice Aw nw cw, .slice Am nm cm, .slice An nn cn]) => (show w'.cell? ⟨w.heap.size, 2, none⟩ = some (.slice Aw nw cw) from hh.cell 2)
    have q3 := fun (w' : World) (hh : Blk w' w.heap.size 27 #[.int .u64 (r.gen : Int), .int .u64 (r.seq : Int), .slice Aw nw cw, .slice Am nm cm, .slice An nn cn]) => (show w'.cell? ⟨w.heap.size, 3, none⟩ = some (.slice Am nm cm) from hh.cell 3)
    have q4 := fun (w' : World) (hh : Blk w' w.heap.size 27 #[.int .u64 (r.gen : Int), .int .u64 (r.seq : Int), .slice Aw nw cw, .slice Am nm cm, .slice An nn cn]) => (show w'.cell? ⟨w.heap.size, 4, none⟩ = some (.slice An nn cn) from hh.cell 4)
    have hb4d := hbw4.drew
    have hx4d := hbx4.drew
    have hrecd := (h.keep (Kp.of_below hbw4 (fun k hk => hk))).keep (w' := w4.drew) (fun _ _ => rfl)
    go_wp2_with fail
    first | (go_region_held3 (fun w' => Blk w' w.heap.size 27 #[.int .u64 (r.gen : Int), .int .u64 (r.seq : Int), .slice Aw nw cw, .slice Am nm cm, .slice An nn cn]) (first | with_reducible exact hx4d | with_reducible exact hx5 | with_reducible exact hx6 | with_reducible exact hx7) (first | (go_at_call 20; refine (sameSectors_any _ _ A3 A4 _ c3 _ c4 (encP r) (encP r) _ (hrd3.keep (w' := w4.drew) (fun _ _ => rfl)) (hrd4.keep (w' := w4.drew) (fun _ _ => rfl)) hc3 hc4 (by omega) (by omega) (fun k hk => by have := hk.1; show k < w4.heap.size; omega) (fun k hk => hk.1)).mono ?_; rintro e w5 ⟨rfl, hb5⟩; have hb5d := hb4d.trans (hb5.mono hb4d.size); have hx5 := hx4d.below hb5 hx4d.lt; have hs5 := hb5.size; (rw [decide_eq_true (rfl : encP r = encP r)])) | (go_at_call 21; refine (valid_any (fun k => k < w.heap.size) r Aw nw cw Am nm cm An nn cn _ (h.keep (Kp.of_below hb5d (fun k hk => hk))) (fun k hk => by have := hb5d.size; omega)).mono ?_; rintro e w6 ⟨rfl, hb6⟩; have hb6d := hb5d.trans (hb6.mono hb5d.size); have hx6 := hx5.below hb6 hx5.lt) | (go_at_call 22; refine (valid27_any (fun k => k < w.heap.size) r Aw nw cw Am nm cm An nn cn _ (h.keep (Kp.of_below hb6d (fun k hk => hk))) (fun k hk => by have := hb6d.size; omega)).mono ?_; rintro e w7 ⟨rfl, hb7⟩; have hb7d := hb6d.trans (hb7.mono hb6d.size); have hx7 := hx6.below hb7 hx6.lt))) | fail
    go_wp2
    go_ret
    exact ⟨by simp, hb7d⟩

end Go.Proofs.Ytbcmpfdhpefdbaa
