/- The contract of the reference's Inspect. -/
import Derived.Test.YtbcmpfdhpefdbaaIns2
import Derived.Test.YtbcmpfdhpefdbaaStr
import Derived.Test.YtbcmpfdhpefdbaaRef09b
set_option linter.unusedVariables false
set_option linter.unusedSimpArgs false
namespace Go.Proofs.Ytbcmpfdhpefdbaa
open Go.RowKit
attribute [local irreducible] Go.Calls

theorem info_head9 : (Try.prog.info? 39).map (·.size) = some 4 := by kernel_rfl

set_option maxRecDepth 100000 in
set_option maxHeartbeats 400000 in
theorem insp9_form (F : Nat → Prop) (A : Option Addr) (n c : Nat) (b : List UInt8) (w : World) (h : RdB w F A n b) (hnc : n ≤ c) (hl : b.length ≤ 1000000) (hF : ∀ k, F k → k < w.heap.size) (hbad : b.length < 8 ∨ b[0]? ≠ some 82) :
    Calls Try.prog 24 #[.slice A n c] w (InspPost F w (insp b)) := by
  have hfin := hid (show insp b = Ins.bad 5 by rw [insp, if_pos hbad])
  have hn := h.1
  have hbox : Blk (w.alloc (.cells #[.int .u64 0, .int .u64 0, .int .i64 0, .int .i64 0] 39)) w.heap.size 39 #[.int .u64 0, .int .u64 0, .int .i64 0, .int .i64 0] := Blk.new _ _ _
  have hbel0 : Below w.heap.size w (w.alloc (.cells #[.int .u64 0, .int .u64 0, .int .i64 0, .int .i64 0] 39)) := (Below.refl _ _).alloc (Nat.le_refl _) _
  have hnl : n ≤ 1000000 := by omega
  by_cases h8 : b.length < 8
  · have h8' : n < 8 := by omega
    have hn' := hid hn
    clear hn hbad h8
    go_enter Try.func24, Try.ntmps24
    go_wp2_with (refine wpList_stBlk rfl 39 _ _ rfl w.heap.size 39 _ #[.int .u64 0, .int .u64 0, .int .i64 0, .int .i64 0] hbox rfl rfl info_head9 rfl rfl ?_; intro w2 hb3 hg3)
    refine bodyPost_ret (results_ctt rfl rfl hb3 Try.underlying39 rfl info_head9) rfl ?_
    rw [hfin.out]
    exact inspPost_bad (hbel0.grown hg3 (by simp) (by intro k hk; injection hk with hk; omega))
  · have h8' : 8 ≤ n := by omega
    have h82 : b[0]? ≠ some 82 := hbad.resolve_left h8
    obtain ⟨x, hx⟩ : ∃ x, b[0]? = some x := ⟨b[0]'(by omega), List.getElem?_eq_getElem _⟩
    obtain ⟨bb, o, rfl, hFb, hc⟩ := h.at_ hx
    have hc' : (w.alloc (.cells #[.int .u64 0, .int .u64 0, .int .i64 0, .int .i64 0] 39)).cell? ⟨bb, o, none⟩ = some (.int .u8 (x.toNat : Int)) := (World.cell?_alloc_lt _ _ _ (hF bb hFb)).trans (by simpa using hc)
    have hx82 : ¬ (x.toNat : Int) = 82 := fun e => h82 (by rw [hx]; congr 1; exact UInt8.toNat_inj.1 (by rw [show (82 : UInt8).toNat = 82 from rfl]; omega))
    have hxb : ((x.toNat : Int) != 82) = true := by rw [bne_iff_ne]; exact hx82
    have hn' := hid hn
    clear hn hbad h8 h82 hx hc
    go_enter Try.func24, Try.ntmps24
    go_wp2_with (refine wpList_stBlk rfl 39 _ _ rfl w.heap.size 39 _ #[.int .u64 0, .int .u64 0, .int .i64 0, .int .i64 0] hbox rfl rfl info_head9 rfl rfl ?_; intro w2 hb3 hg3)
    refine bodyPost_ret (results_ctt rfl rfl hb3 Try.underlying39 rfl info_head9) rfl ?_
    rw [hfin.out]
    exact inspPost_bad (hbel0.grown hg3 (by simp) (by intro k hk; injection hk with hk; omega))

set_option maxRecDepth 100000 in
set_option maxHeartbeats 400000 in
theorem insp9_sum (F : Nat → Prop) (bb o n c : Nat) (b : List UInt8) (w : World) (h : RdB w F (some ⟨bb, o, none⟩) n b) (hnc : n ≤ c) (hcm : c ≤ maxLen) (hl : b.length ≤ 1000000) (hF : ∀ k, F k → k < w.heap.size) (h8 : 8 ≤ b.length) (h82 : b[0]? = some 82)
    (hbad : sealB (b.take (b.length - 8)) ≠ b) :
    Calls Try.prog 24 #[.slice (some ⟨bb, o, none⟩) n c] w (InspPost F w (insp b)) := by
  have hfin := hid (show insp b = Ins.bad 6 by rw [insp, if_neg (by rintro (e | e); omega; exact e h82), if_pos hbad])
  have hn := h.1
  have hbox : Blk (w.alloc (.cells #[.int .u64 0, .int .u64 0, .int .i64 0, .int .i64 0] 39)) w.heap.size 39 #[.int .u64 0, .int .u64 0, .int .i64 0, .int .i64 0] := Blk.new _ _ _
  have hbel0 : Below w.heap.size w (w.alloc (.cells #[.int .u64 0, .int .u64 0, .int .i64 0, .int .i64 0] 39)) := (Below.refl _ _).alloc (Nat.le_refl _) _
  have hnl : n ≤ 1000000 := by omega
  have h8' : 8 ≤ n := by omega
  obtain ⟨_, _, e, hFb, hc⟩ := h.at_ h82
  injection e with e
  injection e with e1 e2
  subst e1
  subst e2
  have hc' : (w.alloc (.cells #[.int .u64 0, .int .u64 0, .int .i64 0, .int .i64 0] 39)).cell? ⟨bb, o, none⟩ = some (.int .u8 82) := (World.cell?_alloc_lt _ _ _ (hF _ hFb)).trans (by simpa using hc)
  have hr0 := h.keep (Kp.of_below hbel0 hF)
  have hrt := RdB.mk_take hr0 (n := n - 8) (by omega)
  have e3 : b.take (n - 8) = b.take (b.length - 8) := by rw [hn]
  rw [e3] at hrt
  have hsl := sealB_len (b.take (b.length - 8))
  have hcv := hr0.conv c
  have hi1 : (0 : Int) ≤ ((n - 8 : Nat) : Int) := by omega
  have hi2 : ((n - 8 : Nat) : Int) ≤ (c : Int) := by omega
  have hi3 : n - 8 ≤ c := by omega
  have hi4 : (n : Int) - 8 = ((n - 8 : Nat) : Int) := by omega
  have hi5 : IntKind.i64.wrap ((n - 8 : Nat) : Int) = ((n - 8 : Nat) : Int) := by rw [IntKind.wrap_i64]; omega
  have hbad' := hid hbad
  have hn' := hid hn
  clear hn h8 h82 hc hbad e3
  go_enter Try.func24, Try.ntmps24
  go_wp2_with fail
  have hcv0 := hr0.drew.conv c
  go_region_with (first | (go_at_call 25; refine (sealed27_any F _ _ _ _ _ hrt.drew (by omega) (by rw [List.length_take]; omega) (fun k hk => by have := hF k hk; simp; omega)).mono ?_; intro e w1 hret1; obtain ⟨A1, c1, d1, rfl, hown1, hbel1, hc1, hm1, hd1⟩ := hret1.opened; have hcv1 := hown1.rd.conv c1; have hcvb := (hr0.drew.keep (Kp.of_below hbel1 (fun k hk => by have := hF k hk; simp; omega))).conv c; have hne := strB_ne (a := d1) (b := b) (fun e => hbad'.out (by rw [← hd1.out]; exact e))))
  all_goals (
    have hbx1 := hbox.drew.below hbel1 (by simp)
    have hbelw1 : Below w.heap.size w w1 := hbel0.drew.trans (hbel1.mono (by simp))
    go_wp2_with (refine wpList_stBlk rfl 39 _ _ rfl w.heap.size 39 _ #[.int .u64 0, .int .u64 0, .int .i64 0, .int .i64 0] hbx1 rfl rfl info_head9 rfl rfl ?_; intro w4 hb3 hg3)
    refine bodyPost_ret (results_ctt rfl rfl hb3 Try.underlying39 rfl info_head9) rfl ?_
    rw [hfin.out]
    exact inspPost_bad (hbelw1.grown hg3 hbelw1.size (by intro k hk; injection hk with hk; omega)))


end Go.Proofs.Ytbcmpfdhpefdbaa
