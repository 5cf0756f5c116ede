/- The contract of record's Inspect. -/
import Derived.Test.YtbcmpfdhpefdbaaInsP
import Derived.Test.YtbcmpfdhpefdbaaEq
import Derived.Test.YtbcmpfdhpefdbaaSeal
import Derived.Test.YtbcmpfdhpefdbaaCodec2
set_option linter.unusedVariables false
set_option linter.unusedSimpArgs false
namespace Go.Proofs.Ytbcmpfdhpefdbaa
open Go.RowKit
attribute [local irreducible] Go.Calls

theorem info_head : (Try.prog.info? 36).map (·.size) = some 4 := by kernel_rfl

theorem RdB.mk_take {w : World} {F : Nat → Prop} {A : Option Addr} {k : Nat} {bs : List UInt8} (h : RdB w F A k bs) {n : Nat} (hn : n ≤ k) : RdB w F A n (bs.take n) := h.take_ hn

set_option maxRecDepth 100000 in
set_option maxHeartbeats 400000 in
theorem insp_form (F : Nat → Prop) (A : Option Addr) (n c : Nat) (b : List UInt8) (w : World) (h : RdB w F A n b) (hnc : n ≤ c) (hl : b.length ≤ 1000000) (hF : ∀ k, F k → k < w.heap.size) (hbad : b.length < 8 ∨ b[0]? ≠ some 82) :
    Calls Try.prog 23 #[.slice A n c] w (InspPost F w (insp b)) := by
  have hfin := hid (show insp b = Ins.bad 5 by rw [insp, if_pos hbad])
  have hn := h.1
  have hbox : Blk (w.alloc (.cells #[.int .u64 0, .int .u64 0, .int .i64 0, .int .i64 0] 36)) w.heap.size 36 #[.int .u64 0, .int .u64 0, .int .i64 0, .int .i64 0] := Blk.new _ _ _
  have hbel0 : Below w.heap.size w (w.alloc (.cells #[.int .u64 0, .int .u64 0, .int .i64 0, .int .i64 0] 36)) := (Below.refl _ _).alloc (Nat.le_refl _) _
  have hnl : n ≤ 1000000 := by omega
  by_cases h8 : b.length < 8
  · have h8' : n < 8 := by omega
    have hn' := hid hn
    clear hn hbad h8
    go_enter Try.func23, Try.ntmps23
    go_wp2_with (refine wpList_stBlk rfl 36 _ _ rfl w.heap.size 36 _ #[.int .u64 0, .int .u64 0, .int .i64 0, .int .i64 0] hbox rfl rfl info_head rfl rfl ?_; intro w2 hb3 hg3)
    refine bodyPost_ret (results_ctt rfl rfl hb3 Try.underlying36 rfl info_head) rfl ?_
    rw [hfin.out]
    exact inspPost_bad (hbel0.grown hg3 (by simp) (by intro k hk; injection hk with hk; omega))
  · have h8' : 8 ≤ n := by omega
    have h82 : b[0]? ≠ some 82 := hbad.resolve_left h8
    obtain ⟨x, hx⟩ : ∃ x, b[0]? = some x := ⟨b[0]'(by omega), List.getElem?_eq_getElem _⟩
    obtain ⟨bb, o, rfl, hFb, hc⟩ := h.at_ hx
    have hc' : (w.alloc (.cells #[.int .u64 0, .int .u64 0, .int .i64 0, .int .i64 0] 36)).cell? ⟨bb, o, none⟩ = some (.int .u8 (x.toNat : Int)) := (World.cell?_alloc_lt _ _ _ (hF bb hFb)).trans (by simpa using hc)
    have hx82 : ¬ (x.toNat : Int) = 82 := fun e => h82 (by rw [hx]; congr 1; exact UInt8.toNat_inj.1 (by rw [show (82 : UInt8).toNat = 82 from rfl]; omega))
    have hxb : ((x.toNat : Int) != 82) = true := by rw [bne_iff_ne]; exact hx82
    have hn' := hid hn
    clear hn hbad h8 h82 hx hc
    go_enter Try.func23, Try.ntmps23
    go_wp2_with (refine wpList_stBlk rfl 36 _ _ rfl w.heap.size 36 _ #[.int .u64 0, .int .u64 0, .int .i64 0, .int .i64 0] hbox rfl rfl info_head rfl rfl ?_; intro w2 hb3 hg3)
    refine bodyPost_ret (results_ctt rfl rfl hb3 Try.underlying36 rfl info_head) rfl ?_
    rw [hfin.out]
    exact inspPost_bad (hbel0.grown hg3 (by simp) (by intro k hk; injection hk with hk; omega))

set_option maxRecDepth 100000 in
set_option maxHeartbeats 400000 in
theorem insp_sum (F : Nat → Prop) (bb o n c : Nat) (b : List UInt8) (w : World) (h : RdB w F (some ⟨bb, o, none⟩) n b) (hnc : n ≤ c) (hcm : c ≤ maxLen) (hl : b.length ≤ 1000000) (hF : ∀ k, F k → k < w.heap.size) (h8 : 8 ≤ b.length) (h82 : b[0]? = some 82)
    (hbad : sealB (b.take (b.length - 8)) ≠ b) :
    Calls Try.prog 23 #[.slice (some ⟨bb, o, none⟩) n c] w (InspPost F w (insp b)) := by
  have hfin := hid (show insp b = Ins.bad 6 by rw [insp, if_neg (by rintro (e | e); omega; exact e h82), if_pos hbad])
  have hn := h.1
  have hbox : Blk (w.alloc (.cells #[.int .u64 0, .int .u64 0, .int .i64 0, .int .i64 0] 36)) w.heap.size 36 #[.int .u64 0, .int .u64 0, .int .i64 0, .int .i64 0] := Blk.new _ _ _
  have hbel0 : Below w.heap.size w (w.alloc (.cells #[.int .u64 0, .int .u64 0, .int .i64 0, .int .i64 0] 36)) := (Below.refl _ _).alloc (Nat.le_refl _) _
  have hnl : n ≤ 1000000 := by omega
  have h8' : 8 ≤ n := by omega
  obtain ⟨_, _, e, hFb, hc⟩ := h.at_ h82
  injection e with e
  injection e with e1 e2
  subst e1
  subst e2
  have hc' : (w.alloc (.cells #[.int .u64 0, .int .u64 0, .int .i64 0, .int .i64 0] 36)).cell? ⟨bb, o, none⟩ = some (.int .u8 82) := (World.cell?_alloc_lt _ _ _ (hF _ hFb)).trans (by simpa using hc)
  have hr0 := h.keep (Kp.of_below hbel0 hF)
  have hrt := RdB.mk_take hr0 (n := n - 8) (by omega)
  have e3 : b.take (n - 8) = b.take (b.length - 8) := by rw [hn]
  rw [e3] at hrt
  have hsl := sealB_len (b.take (b.length - 8))
  have hbad' := hid hbad
  have hn' := hid hn
  clear hn h8 h82 hc hbad e3
  go_enter Try.func23, Try.ntmps23
  go_wp2_with fail
  refine (clone_any F _ _ _ _ _ hrt (by rw [List.length_take]; omega) (fun k hk => by have := hF k hk; simp; omega)).mono ?_
  intro e w1 hret1
  obtain ⟨A1, c1, d1, rfl, hown1, hbel1, hc1, hm1, hd1⟩ := hret1.opened
  have hl1 : d1.length ≤ 1000000 := by rw [hd1.out, List.length_take]; omega
  clear hret1
  go_wp2_with fail
  refine (sealed_any _ A1 _ c1 d1 _ hown1 (by omega) hbel1.size).mono ?_
  intro e w2 hret2
  obtain ⟨A2, c2, d2, rfl, hown2, hbel2, hc2, hm2, hd2⟩ := hret2.opened
  have hl2 : d2.length ≤ 1000008 := by rw [hd2.out, sealB_len]; omega
  have hbel12 := hbel1.trans hbel2
  have hbelw2 := hbel0.trans (hbel12.mono (by simp))
  have hbx2 := hbox.below hbel12 (by simp)
  have hne : ¬ d2 = b := by rw [hd2.out, hd1.out]; exact hbad'.out
  clear hret2
  go_wp2_with fail
  refine (equal_any _ F _ _ _ _ _ _ d2 b w2 hown2.rd (h.keep (Kp.of_below hbelw2 hF)) hc2 hnc (by omega) (by omega) (fun k hk => hk.1) (fun k hk => by have := hF k hk; have := hbelw2.size; omega)).mono ?_
  rintro e w3 ⟨rfl, hbel3⟩
  rw [decide_eq_false hne]
  have hbx3 := hbx2.below hbel3 hbx2.lt
  have hbelw3 := hbelw2.trans (hbel3.mono hbelw2.size)
  go_wp2_with (refine wpList_stBlk rfl 36 _ _ rfl w.heap.size 36 _ #[.int .u64 0, .int .u64 0, .int .i64 0, .int .i64 0] hbx3 rfl rfl info_head rfl rfl ?_; intro w4 hb3 hg3)
  refine bodyPost_ret (results_ctt rfl rfl hb3 Try.underlying36 rfl info_head) rfl ?_
  rw [hfin.out]
  exact inspPost_bad (hbelw3.grown hg3 hbelw3.size (by intro k hk; injection hk with hk; omega))

end Go.Proofs.Ytbcmpfdhpefdbaa
