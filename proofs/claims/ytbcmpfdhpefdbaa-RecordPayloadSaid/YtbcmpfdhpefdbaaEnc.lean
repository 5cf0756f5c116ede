/- The contract of record's Encode. -/
import Derived.Test.YtbcmpfdhpefdbaaColl
import Derived.Test.YtbcmpfdhpefdbaaEnc27b
import Derived.Test.YtbcmpfdhpefdbaaRecV
import Derived.Test.YtbcmpfdhpefdbaaSeal
set_option linter.unusedVariables false
set_option linter.unusedSimpArgs false
namespace Go.Proofs.Ytbcmpfdhpefdbaa
open Go.RowKit
attribute [local irreducible] Go.Calls

theorem encode_bad (F : Nat → Prop) (r : Rec) (Aw : Option Addr) (nw cw : Nat) (Am : Option Addr) (nm cm : Nat) (An : Option Addr) (nn cn : Nat) (w : World) (h : RecIn w F r Aw nw cw Am nm cm An nn cn) (hF : ∀ k, F k → k < w.heap.size) (hvld : r.vld = false) :
    Calls Try.prog 18 #[.agg (recCells r Aw nw cw Am nm cm An nn cn)] w (EncPost w r) := by
  have hbox : Blk (w.alloc (.cells (recCells r Aw nw cw Am nm cm An nn cn) 27)) w.heap.size 27 (recCells r Aw nw cw Am nm cm An nn cn) := Blk.new _ _ _
  have hbel0 : Below w.heap.size w (w.alloc (.cells (recCells r Aw nw cw Am nm cm An nn cn) 27)) := (Below.refl _ _).alloc (Nat.le_refl _) _
  have hv := hid hvld
  clear hvld
  go_enter Try.func18, Try.ntmps18
  go_wp2_with (refine wpList_ldBlk rfl 27 _ rfl w.heap.size 27 _ hbox _ rfl Try.underlying27 rfl info_rec ?_)
  refine (valid_any F r Aw nw cw Am nm cm An nn cn _ (h.keep (Kp.of_below hbel0 hF)) (fun k hk => by have := hF k hk; simp; omega)).mono ?_
  rintro e w1 ⟨rfl, hbel1⟩
  rw [hv.out]
  go_wp2
  go_ret2
  refine ⟨_, by rw [encE, hv.out]; rfl, ?_, hbel0.trans (hbel1.mono (by simp))⟩
  rw [encP, hv.out]
  exact OwnS.nil_

theorem payl_pos (r : Rec) : 0 < (payl r).length := by
  have := List.length_pos_iff.2 (enc_ne r.gen)
  simp only [payl, List.length_append]
  omega

set_option maxRecDepth 100000 in
set_option maxHeartbeats 1000000 in
theorem encode_good (F : Nat → Prop) (r : Rec) (Aw : Option Addr) (nw cw : Nat) (Am : Option Addr) (nm cm : Nat) (An : Option Addr) (nn cn : Nat) (w : World) (h : RecIn w F r Aw nw cw Am nm cm An nn cn) (hF : ∀ k, F k → k < w.heap.size) (hvld : r.vld = true) :
    Calls Try.prog 18 #[.agg (recCells r Aw nw cw Am nm cm An nn cn)] w (EncPost w r) := by
  have hpl := payl_len h.ok (Rec.V.of hvld)
  have hpp := payl_pos r
  have hgen := h.ok.gen
  have hseq := h.ok.seq
  unfold U64 at hgen hseq
  have hbox : Blk (w.alloc (.cells (recCells r Aw nw cw Am nm cm An nn cn) 27)) w.heap.size 27 (recCells r Aw nw cw Am nm cm An nn cn) := Blk.new _ _ _
  have hbel0 : Below w.heap.size w (w.alloc (.cells (recCells r Aw nw cw Am nm cm An nn cn) 27)) := (Below.refl _ _).alloc (Nat.le_refl _) _
  have hv := hid hvld
  clear hvld
  go_enter Try.func18, Try.ntmps18
  go_wp2_with (refine wpList_ldBlk rfl 27 _ rfl w.heap.size 27 _ hbox _ rfl Try.underlying27 rfl info_rec ?_)
  refine (valid_any F r Aw nw cw Am nm cm An nn cn _ (h.keep (Kp.of_below hbel0 hF)) (fun k hk => by have := hF k hk; simp; omega)).mono ?_
  rintro e w1 ⟨rfl, hbel1⟩
  rw [hv.out]
  have hbx1 := hbox.below hbel1 (by simp)
  have hbelw1 := hbel0.trans (hbel1.mono (by simp))
  clear hbel1 hbel0 hbox
  go_wp2_with (refine wpList_ldBlk rfl 27 _ rfl w.heap.size 27 _ hbx1 _ rfl Try.underlying27 rfl info_rec ?_)
  refine (payload_any F r Aw nw cw Am nm cm An nn cn _ (h.keep (Kp.of_below hbelw1 hF)) (fun k hk => by have := hF k hk; have := hbelw1.size; omega) hv.out).mono ?_
  intro e w2 hret2
  obtain ⟨A2, c2, d2, rfl, hown2, hbel2, hc2, hm2, hd2⟩ := hret2.opened
  have hl2 : d2.length ≤ 5400 := by rw [hd2.out]; exact hpl
  have hl0 : 0 < d2.length := by rw [hd2.out]; exact hpp
  have hbx2 := hbx1.below hbel2 hbx1.lt
  have hbelw2 := hbelw1.trans (hbel2.mono hbelw1.size)
  have hrd2 := hown2.rd
  clear hret2 hbel2 hbelw1 hbx1 hown2 hpl hpp
  go_wp2_with fail
  refine (chunk_any A2 d2.length c2 w2).mono ?_
  rintro e w3 ⟨rfl, rfl⟩
  obtain ⟨b, o, rfl, hFb, hc⟩ := hrd2.2.2 hl0
  clear hc
  have hb0 := Blk.new w2 25 #[.slice (some ⟨b, o, none⟩) d2.length c2]
  have hbs := hb0.alloc (.cells #[.int .i64 28] 3)
  have hbn := Blk.new (w2.alloc (.cells #[.slice (some ⟨b, o, none⟩) d2.length c2] 25)) 3 #[.int .i64 28]
  rw [show (w2.alloc (.cells #[.slice (some ⟨b, o, none⟩) d2.length c2] 25)).heap.size = w2.heap.size + 1 by simp] at hbn
  have hbel3 : Below w2.heap.size w2 ((w2.alloc (.cells #[.slice (some ⟨b, o, none⟩) d2.length c2] 25)).alloc (.cells #[.int .i64 28] 3)) := ((Below.refl _ _).alloc (Nat.le_refl _) _).alloc (by simp) _
  have hF3 : ∀ k, (k < w2.heap.size ∧ w1.heap.size ≤ k) → k < w2.heap.size := fun k hk => hk.1
  have hrd3 := hrd2.keep (Kp.of_below hbel3 hF3)
  go_wp2_with fail
  refine (collect_any _ w2.heap.size (w2.heap.size + 1) b o d2.length c2 d2 _ (by omega) hc2 hl0 hrd3 (fun k hk => by have := hk.1; simp; omega) hbs.lt hbn.lt (hbs.cell 0) (hbn.cell 0)).mono ?_
  rintro e w4 ⟨v4, rfl, hown4, hbel4⟩
  obtain ⟨A4, c4, rfl, hc4, hm4⟩ := hown4.form
  have hrd4 := hown4.rd
  have hbelw4 := hbelw2.trans ((hbel3.trans (hbel4.mono hbel3.size)).mono hbelw2.size)
  have hbx4 := (hbx2.below hbel3 hbx2.lt).below hbel4 (by have := hbx2.lt; simp; omega)
  clear hb0 hbs hbn hbel3 hrd3 hbel4 hown4 hbx2 hbelw2
  have hz4 := hbx4.lt
  obtain ⟨m, hm⟩ : ∃ m, m = nChunks d2.length := ⟨_, rfl⟩
  rw [chunks_len, ← hm] at hrd4 hc4
  rw [chunks_len, ← hm]
  have hmb : m ≤ 200 := by rw [hm]; unfold nChunks; omega
  have hm' := hid hm
  clear hm
  unfold recCells at hbx4
  have b0 : w4.cell? ⟨w.heap.size, 0, none⟩ = some (.int .u64 (r.gen : Int)) := hbx4.cell 0
  have b1 : w4.cell? ⟨w.heap.size, 1, none⟩ = some (.int .u64 (r.seq : Int)) := hbx4.cell 1
  go_wp2_with fail
  go_loopw [5, 18] (fun v i wr => ∃ (j : Nat), i = .int .i64 (j : Int) ∧ j ≤ m ∧ OwnS w4.heap.size (fun _ => False) wr v (secTo r d2 j) ∧ Below w4.heap.size w4 wr) (fun _ i _ => m - (intOf i).toNat)
  case atStart => exact ⟨0, rfl, by omega, OwnS.nil_, Below.refl _ _⟩
  case round =>
    obtain ⟨j, rfl, hj, hown, hbel⟩ := hrel
    have hbx := hbx4.below hbel hz4
    have hzr := hbel.size
    by_cases hjm : j < m
    · have hch := chunks_get (bs := d2) (j := j) (by rw [← hm'.out]; exact hjm)
      obtain ⟨bb, oo, A5, c5, hA, hFb5, hcell, hlc, hlm, hrd5⟩ := (hrd4.keep (Kp.of_below hbel (fun k hk => hk.1))).at_ hch
      subst hA
      have hcl := hid (chunkAt_len' d2 j)
      have b0 : ∀ ob, (wr.alloc ob).cell? ⟨w.heap.size, 0, none⟩ = some (.int .u64 (r.gen : Int)) := fun ob => (hbx.alloc ob).cell 0
      have b1 : ∀ ob, (wr.alloc ob).cell? ⟨w.heap.size, 1, none⟩ = some (.int .u64 (r.seq : Int)) := fun ob => (hbx.alloc ob).cell 1
      have hr1 : RdB ((wr.alloc (.cells #[.int .u8 82] 5)).alloc (.cells #[.int .u64 (r.gen : Int), .int .u64 (r.seq : Int), .int .u64 (j : Int), .int .u64 (m : Int)] 22)) (fun k => k = wr.heap.size) (some ⟨wr.heap.size, 0, none⟩) 1 [82] :=
        RdB.keep (rdB_one wr 82 (by decide)) (fun k hk => Below.heap_alloc _ _ k (by rw [hk]; simp))
      have hblk := Blk.new (wr.alloc (.cells #[.int .u8 82] 5)) 22 #[.int .u64 (r.gen : Int), .int .u64 (r.seq : Int), .int .u64 (j : Int), .int .u64 (m : Int)]
      rw [show (wr.alloc (.cells #[.int .u8 82] 5)).heap.size = wr.heap.size + 1 by simp] at hblk
      have hbel5 : Below wr.heap.size wr ((wr.alloc (.cells #[.int .u8 82] 5)).alloc (.cells #[.int .u64 (r.gen : Int), .int .u64 (r.seq : Int), .int .u64 (j : Int), .int .u64 (m : Int)] 22)) := ((Below.refl _ _).alloc (Nat.le_refl _) _).alloc (by simp) _
      obtain ⟨A6, c6, rfl, hc6, hm6⟩ := hown.form
      rw [secTo_len] at hown hc6 ⊢
      have hownlt := hown.lt
      have hnx := hid (secTo_succ r d2 j)
      have eg := enc_len10 hgen
      have es := enc_len10 hseq
      have ej := enc_len10 (n := j) (by omega)
      have em := enc_len10 (n := m) (by omega)
      go_wp2_with fail
      refine (numbers_blk (fun k => k = wr.heap.size) _ 1 1 [82] (wr.heap.size + 1) 4 4 [r.gen, r.seq, j, m] wr.heap.size wr _ hblk rfl hr1 (by decide) (by decide) (by decide) (by intro n hn; simp at hn; rcases hn with rfl | rfl | rfl | rfl <;> omega) (fun k hk => by rw [hk]; simp; omega) hbel5 (by simp; omega)).mono ?_
      intro e w6 hret6
      obtain ⟨A7, c7, d7, rfl, hown7, hbel7, hc7, hm7, hd7⟩ := hret6.opened
      have hd7' := hid (show d7 = sectorH r.gen r.seq j m by rw [hd7.out]; simp [sectorH])
      have hl7 : d7.length ≤ 41 := by rw [hd7'.out]; exact sector_len (chunk := []) hgen hseq (by omega) (by omega)
      clear hret6 hr1 hblk hbel5
      go_wp2_with fail
      refine (appendBytes_any _ A7 _ c7 d7 _ A5 _ c5 (chunkAt d2 j) _ hown7.rd (hrd5.keep (Kp.of_below hbel7 (fun k hk => by have := hk.1; omega))) (by have := hcl.out; omega) (fun q hq => hq.1) (fun q hq => by have := hq.1; have := hbel7.size; omega)).mono ?_
      intro e w8 hret8
      obtain ⟨A8, c8, d8, rfl, hown8, hbel8, hc8, hm8, hd8⟩ := hret8.opened
      have hl8 : d8.length ≤ 1000 := by
        have h28 := hcl.out
        have := enc_len10 (n := (chunkAt d2 j).length) (by omega)
        rw [hd8.out, List.length_append, List.length_append]; omega
      clear hret8
      go_wp2_with fail
      refine (sealed_any w6.heap.size A8 _ c8 d8 _ hown8 (by omega) hbel8.size).mono ?_
      intro e w9 hret9
      obtain ⟨A9, c9, d9, rfl, hown9, hbel9, hc9, hm9, hd9⟩ := hret9.opened
      have hd9' := hid (show d9 = secAt r d2 j by rw [hd9.out, hd8.out, hd7'.out, secAt, ← hm'.out]; rfl)
      clear hret9
      have hbel10 : Below wr.heap.size wr w9 := (hbel7.trans (hbel8.mono hbel7.size)).trans (hbel9.mono hbel7.size)
      have hown10 := hown.below hbel10
      have hz10 := hbel10.size
      go_wp2_with (at_builtin; refine mk_stop ?_)
      refine wpList_apS rfl _ _ rfl w4.heap.size (fun _ => False) (.slice A6 j c6) (secTo r d2 j) rfl hown10 A9 _ c9 1 d9 rfl (hown9.rd.more (fun k hk => ⟨hk.1, .inr (by have := hk.2; have := hbel7.size; omega), fun e => by have := (hownlt _ e).2; have := hk.2; have := hbel7.size; omega⟩)) hc9 hm9 (by rw [secTo_len]; omega) (by omega) ?_
      intro v11 w11 hown11 hg11 hat11
      rw [hd9'.out, ← hnx.out] at hown11
      go_wp2
      go_roundw
      case rel => exact ⟨j + 1, by go_num, by omega, hown11, (hbel.trans (hbel10.mono hzr)).grown hg11 (by omega) (fun k hk => (hownlt k hk).1)⟩
      case measure => simp [intOf]; omega
    · have hjn : j = m := by omega
      subst hjn
      go_wp2
      go_ret2
      refine ⟨_, by rw [encE, hv.out]; rfl, ?_, hbelw4.trans (hbel.mono hbelw4.size)⟩
      have e1 : encP r = secTo r d2 j := by rw [encP, hv.out, if_pos rfl, sectors, ← hd2.out, ← hm'.out]
      rw [e1]
      exact hown.lower hbelw4.size

theorem encode_any (F : Nat → Prop) (r : Rec) (Aw : Option Addr) (nw cw : Nat) (Am : Option Addr) (nm cm : Nat) (An : Option Addr) (nn cn : Nat) (w : World) (h : RecIn w F r Aw nw cw Am nm cm An nn cn) (hF : ∀ k, F k → k < w.heap.size) :
    Calls Try.prog 18 #[.agg (recCells r Aw nw cw Am nm cm An nn cn)] w (EncPost w r) := by
  cases hv : r.vld with
  | false => exact encode_bad F r Aw nw cw Am nm cm An nn cn w h hF hv
  | true => exact encode_good F r Aw nw cw Am nm cm An nn cn w h hF hv

end Go.Proofs.Ytbcmpfdhpefdbaa
