/- The contract of the reference's Payload. -/
import Derived.Test.YtbcmpfdhpefdbaaPay
set_option linter.unusedVariables false
set_option linter.unusedSimpArgs false
namespace Go.Proofs.Ytbcmpfdhpefdbaa
open Go.RowKit
attribute [local irreducible] Go.Calls

set_option maxRecDepth 100000 in
set_option maxHeartbeats 2000000 in
theorem payload27_any (F : Nat → Prop) (r : Rec) (Aw : Option Addr) (nw cw : Nat) (Am : Option Addr) (nm cm : Nat) (An : Option Addr) (nn cn : Nat) (w : World) (h : RecIn w F r Aw nw cw Am nm cm An nn cn) (hF : ∀ k, F k → k < w.heap.size) (hvld : r.vld = true) :
    Calls Try.prog 31 #[.agg (recCells r Aw nw cw Am nm cm An nn cn)] w (RetB w.heap.size w (payl r)) := by
  have hV := Rec.V.of hvld
  have hw := h.wr.1
  have hm := h.mv.1
  have hn := h.nt.1
  have hgen := h.ok.gen
  have hseq := h.ok.seq
  have hnw := hV.nw
  have hnm := hV.nm
  have hnn := hV.nn
  rw [← hw] at hnw
  rw [← hm] at hnm
  rw [← hn] at hnn
  unfold U64 at hgen hseq
  have hg10 := enc_len10 hgen
  have hs10 := enc_len10 hseq
  have hbox : Blk (w.alloc (.cells (recCells r Aw nw cw Am nm cm An nn cn) 27)) w.heap.size 27 (recCells r Aw nw cw Am nm cm An nn cn) := Blk.new _ _ _
  have hbel0 : Below w.heap.size w (w.alloc (.cells (recCells r Aw nw cw Am nm cm An nn cn) 27)) := (Below.refl _ _).alloc (Nat.le_refl _) _
  have hsz0 : w.heap.size < (w.alloc (.cells (recCells r Aw nw cw Am nm cm An nn cn) 27)).heap.size := by simp
  have hwl' := hid (payW_len h.ok hV)
  have hml' := hid (payM_len h.ok hV)
  have hw' := hid hw
  have hm' := hid hm
  have hn' := hid hn
  have hpay0 := hid (show payW r 0 = (([] ++ enc r.gen) ++ enc r.seq) ++ enc nw by simp [payW, hw])
  clear hw hm hn
  unfold recCells at hbox hbel0 hsz0
  unfold recCells
  have q0 := fun (w' : World) (hh : Blk w' w.heap.size 27 #[.int .u64 (r.gen : Int), .int .u64 (r.seq : Int), .slice Aw nw cw, .slice Am nm cm, .slice An nn cn]) => (show w'.cell? ⟨w.heap.size, 0, none⟩ = some (.int .u64 (r.gen : Int)) from hh.cell 0)
  have q1 := fun (w' : World) (hh : Blk w' w.heap.size 27 #[.int .u64 (r.gen : Int), .int .u64 (r.seq : Int), .slice Aw nw cw, .slice Am nm cm, .slice An nn cn]) => (show w'.cell? ⟨w.heap.size, 1, none⟩ = some (.int .u64 (r.seq : Int)) from hh.cell 1)
  go_enter Try.func31, Try.ntmps31
  go_wp2_with fail
  go_region_held3 (fun w' => Blk w' w.heap.size 27 #[.int .u64 (r.gen : Int), .int .u64 (r.seq : Int), .slice Aw nw cw, .slice Am nm cm, .slice An nn cn])
    (first | exact hbox.drew | exact hbox.drew.below hbel1 hsz0 | exact (hbox.drew.below hbel1 hsz0).below hbel2 (by have := hbel1.size; simp at this; omega))
    (first | (go_at_call 72; (refine (appendUint9_any (fun _ => False) none 0 0 [] r.gen _ ⟨rfl, Rd.none_⟩ (by simp) (fun _ h => h.elim) hgen).mono ?_); intro e w1 hret1; obtain ⟨A1, c1, d1, rfl, hown1, hbel1, hc1, hm1, hd1⟩ := hret1.opened; have hl1 : d1.length ≤ 10 := (by rw [hd1.out]; simpa using hg10)) | (go_at_call 72; (refine (appendUint9_any _ A1 _ c1 d1 r.seq _ hown1.rd (by omega) (fun q hq => hq.1) hseq).mono ?_); intro e w2 hret2; obtain ⟨A2, c2, d2, rfl, hown2, hbel2, hc2, hm2, hd2⟩ := hret2.opened; have hl2 : d2.length ≤ 20 := (by rw [hd2.out, List.length_append]; omega)))
  have hbx2 := (hbox.drew.below hbel1 hsz0).below hbel2 (by have := hbel1.size; simp at this; omega)
  have hbelw2 : Below w.heap.size w w2 := (hbel0.drew.trans (hbel1.mono (by simp))).trans (hbel2.mono (by have := hbel1.size; simp at this; omega))
  have hownw2 := hown2.lower (base := w.heap.size) (by have := hbel1.size; simp at this; omega)
  clear hret1 hret2 hown1 q0 q1
  have b2 : w2.cell? ⟨w.heap.size, 2, none⟩ = some (.slice Aw nw cw) := hbx2.cell 2
  go_wp2_with fail
  refine (appendUint9_any _ A2 _ c2 d2 nw _ hownw2.rd (by omega) (fun q hq => hq.1) (by omega)).mono ?_
  intro e w3 hret3
  obtain ⟨A3, c3, d3, rfl, hown3, hbel3, hc3, hm3, hd3⟩ := hret3.opened
  have hd3' : d3 = payW r 0 := by rw [hd3.out, hd2.out, hd1.out, hpay0.out]
  subst hd3'
  have hbx3 := hbx2.below hbel3 hbx2.lt
  have hbelw3 := hbelw2.trans (hbel3.mono hbelw2.size)
  have hownw3 := hown3.lower hbelw2.size
  clear hret3 hd3 hown3 hbel3 hbx2 hbelw2 hownw2 b2 hown2 hbel2 hbel1 hbox hbel0
  go_wp2_with fail
  go_loopw [3, 4] (fun v i wr => ∃ (j : Nat) (A : Option Addr) (k c : Nat), i = .int .i64 (j : Int) ∧ v = .slice A k c ∧ j ≤ nw ∧ OwnB w.heap.size wr (.slice A k c) (payW r j) ∧ Blk wr w.heap.size 27 #[.int .u64 (r.gen : Int), .int .u64 (r.seq : Int), .slice Aw nw cw, .slice Am nm cm, .slice An nn cn] ∧ Below w.heap.size w wr) (fun _ i _ => nw - (intOf i).toNat)
  case atStart => exact ⟨0, A3, _, c3, rfl, rfl, by omega, hownw3, hbx3, hbelw3⟩
  case round =>
    clear hownw3 hbx3 hbelw3
    obtain ⟨j, A, k, c, rfl, rfl, hj, hown, hbx, hbel⟩ := hrel
    have b2 : wr.cell? ⟨w.heap.size, 2, none⟩ = some (.slice Aw nw cw) := hbx.cell 2
    by_cases hjn : j < nw
    · obtain ⟨p, hp⟩ : ∃ p, r.writes[j]? = some p := ⟨r.writes[j]'(by rw [← hw'.out]; exact hjn), List.getElem?_eq_getElem _⟩
      obtain ⟨b, o, rfl, hFb, hc⟩ := (h.wr.keep (Kp.of_below hbel hF)).at_ hp
      have hpo := h.ok.writes p (List.mem_of_getElem? hp)
      have hpv := hV.w p (List.mem_of_getElem? hp)
      have hnext := hid (payW_succ hp)
      clear hp
      have hc' := hid hc
      clear hc
      unfold PW.vld pieceB at hpv
      rw [decide_eq_true_eq] at hpv
      obtain ⟨hg0, hg1, hp0, hp1⟩ := hpv
      obtain ⟨pg, pp, pv, pd⟩ := p
      obtain ⟨gn, rfl⟩ := Int.eq_ofNat_of_zero_le hg0
      obtain ⟨pn, rfl⟩ := Int.eq_ofNat_of_zero_le hp0
      simp only at hg1 hp1
      have hpv' := hpo.v
      unfold U64 at hpv'
      simp only at hpv'
      clear hpo
      have hgn : gn < 18446744073709551616 := by omega
      have hpn : pn < 18446744073709551616 := by omega
      have eg := enc_len10 hgn
      have ep := enc_len10 hpn
      have ev := enc_len10 hpv'
      go_wp2_with (first | (refine wpList_ldAt rfl 77 _ rfl b (o + j * 11) _ _ rfl hc'.out Try.underlying77 rfl info_pw ?_) | (refine wpList_stBlk rfl 77 _ _ rfl wr.heap.size 77 zPW (PW.mk gn pn pv pd).cells.toArray (Blk.new _ _ _) rfl rfl info_pw rfl rfl ?_; intro w2 hb2 hg2))
      have hz := hbel.size
      have hb3 : Below wr.heap.size wr w2 := ((Below.refl _ _).alloc (Nat.le_refl _) _).grown hg2 (by simp) (by intro k hk; injection hk with hk; omega)
      have hown2 := hown.rd.keep (Kp.of_below hb3 (fun k hk => hk.1))
      have hz2 : wr.heap.size < w2.heap.size := hb2.lt
      have hlen := hwl'.out j
      have k0 := fun (w' : World) (hh : Blk w' wr.heap.size 77 (PW.mk gn pn pv pd).cells.toArray) => (show w'.cell? ⟨wr.heap.size, 0, none⟩ = some (.int .i64 (gn : Int)) from hh.cell 0)
      have k1 := fun (w' : World) (hh : Blk w' wr.heap.size 77 (PW.mk gn pn pv pd).cells.toArray) => (show w'.cell? ⟨wr.heap.size, 1, none⟩ = some (.int .i64 (pn : Int)) from hh.cell 1)
      have k2 := fun (w' : World) (hh : Blk w' wr.heap.size 77 (PW.mk gn pn pv pd).cells.toArray) => (show w'.cell? ⟨wr.heap.size, 2, none⟩ = some (.int .u64 (pv : Int)) from hh.cell 2)
      have k3 := fun (w' : World) (hh : Blk w' wr.heap.size 77 (PW.mk gn pn pv pd).cells.toArray) => (show w'.cell? ⟨wr.heap.size, 3, none⟩ = some (.int .u8 (pd.b0.toNat : Int)) from hh.cell 3)
      have k4 := fun (w' : World) (hh : Blk w' wr.heap.size 77 (PW.mk gn pn pv pd).cells.toArray) => (show w'.cell? ⟨wr.heap.size, 4, none⟩ = some (.int .u8 (pd.b1.toNat : Int)) from hh.cell 4)
      have k5 := fun (w' : World) (hh : Blk w' wr.heap.size 77 (PW.mk gn pn pv pd).cells.toArray) => (show w'.cell? ⟨wr.heap.size, 5, none⟩ = some (.int .u8 (pd.b2.toNat : Int)) from hh.cell 5)
      have k6 := fun (w' : World) (hh : Blk w' wr.heap.size 77 (PW.mk gn pn pv pd).cells.toArray) => (show w'.cell? ⟨wr.heap.size, 6, none⟩ = some (.int .u8 (pd.b3.toNat : Int)) from hh.cell 6)
      have k7 := fun (w' : World) (hh : Blk w' wr.heap.size 77 (PW.mk gn pn pv pd).cells.toArray) => (show w'.cell? ⟨wr.heap.size, 7, none⟩ = some (.int .u8 (pd.b4.toNat : Int)) from hh.cell 7)
      have k8 := fun (w' : World) (hh : Blk w' wr.heap.size 77 (PW.mk gn pn pv pd).cells.toArray) => (show w'.cell? ⟨wr.heap.size, 8, none⟩ = some (.int .u8 (pd.b5.toNat : Int)) from hh.cell 8)
      have k9 := fun (w' : World) (hh : Blk w' wr.heap.size 77 (PW.mk gn pn pv pd).cells.toArray) => (show w'.cell? ⟨wr.heap.size, 9, none⟩ = some (.int .u8 (pd.b6.toNat : Int)) from hh.cell 9)
      have k10 := fun (w' : World) (hh : Blk w' wr.heap.size 77 (PW.mk gn pn pv pd).cells.toArray) => (show w'.cell? ⟨wr.heap.size, 10, none⟩ = some (.int .u8 (pd.b7.toNat : Int)) from hh.cell 10)
      have ew1 : IntKind.u64.wrap (gn : Int) = (gn : Int) := by rw [IntKind.wrap_u64]; omega
      have ew2 : IntKind.u64.wrap (pn : Int) = (pn : Int) := by rw [IntKind.wrap_u64]; omega
      go_region_held3 (fun w' => Blk w' wr.heap.size 77 (PW.mk gn pn pv pd).cells.toArray)
        (first | exact hb2.drew | exact hb2.drew.below hbel4 hz2 | exact (hb2.drew.below hbel4 hz2).below hbel5 (by have := hbel4.size; simp at this; omega))
        (first | (go_at_call 72; refine (appendUint9_any _ A k c _ gn _ hown2.drew (by omega) (fun q hq => by have := hq.1; simp; omega) hgn).mono ?_; intro e w4 hret4; obtain ⟨A4, c4, d4, rfl, hown4, hbel4, hc4, hm4, hd4⟩ := hret4.opened; have hl4 : d4.length ≤ 2600 := (by rw [hd4.out, List.length_append]; omega)) | (go_at_call 72; refine (appendUint9_any _ A4 _ c4 d4 pn _ hown4.rd (by omega) (fun q hq => hq.1) hpn).mono ?_; intro e w5 hret5; obtain ⟨A5, c5, d5, rfl, hown5, hbel5, hc5, hm5, hd5⟩ := hret5.opened; have hl5 : d5.length ≤ 2650 := (by rw [hd5.out, List.length_append]; omega)))
      have hb5 := (hb2.drew.below hbel4 hz2).below hbel5 (by have := hbel4.size; simp at this; omega)
      have hbz5 : w2.heap.size ≤ w5.heap.size := by have := hbel4.size; have := hbel5.size; simp at *; omega
      have hbel25 : Below w2.heap.size w2 w5 := ((Below.refl w2.heap.size w2).drew.trans (hbel4.mono (by simp))).trans (hbel5.mono (by have := hbel4.size; simp at this; omega))
      clear hret4 hret5
      go_wp2_with fail
      go_region_held3 (fun w' => Blk w' wr.heap.size 77 (PW.mk gn pn pv pd).cells.toArray)
        (first | exact hb5.drew | exact hb5.drew.below hbel6 (by simp; omega) | exact (hb5.drew.below hbel6 (by simp; omega)).below hbel7 (by have := hbel6.size; simp at this; omega))
        (first | (go_at_call 72; refine (appendUint9_any _ A5 _ c5 d5 pv _ hown5.rd.drew (by omega) (fun q hq => by have := hq.1; simp; omega) hpv').mono ?_; intro e w6 hret6; obtain ⟨A6, c6, d6, rfl, hown6, hbel6, hc6, hm6, hd6⟩ := hret6.opened; have hl6 : d6.length ≤ 2700 := (by rw [hd6.out, List.length_append]; omega)) | (go_at_call 74; refine (appendBlock9_any _ A6 _ c6 d6 pd _ hown6.rd (by omega) (fun q hq => hq.1)).mono ?_; intro e w7 hret7; obtain ⟨A7, c7, d7, rfl, hown7, hbel7, hc7, hm7, hd7⟩ := hret7.opened))
      clear k0 k1 k2 k3 k4 k5 k6 k7 k8 k9 k10 ew1 ew2
      have hd7' : d7 = payW r (j + 1) := by rw [hd7.out, hd6.out, hd5.out, hd4.out, hnext.out]; simp [PW.enc, List.append_assoc]
      subst hd7'
      go_wp2
      go_roundw
      case rel =>
        have hb57 : Below w5.heap.size w5 w7 := ((Below.refl w5.heap.size w5).drew.trans (hbel6.mono (by simp))).trans (hbel7.mono (by have := hbel6.size; simp at this; omega))
        have hbw5 := (hbel.trans (hb3.mono hz)).trans (hbel25.mono (by omega))
        exact ⟨j + 1, A7, _, c7, by go_num, rfl, by omega, hown7.lower (by have := hbel6.size; simp at this; omega), ((hbx.below hb3 hbx.lt).below hbel25 (by have := hbx.lt; omega)).below hb57 (by have := hbx.lt; omega), hbw5.trans (hb57.mono (by omega))⟩
      case measure => simp [intOf]; omega
    · have hjn : j = nw := by omega
      subst hjn
      have hwj := hid (show payW r j = payW r r.writes.length by rw [← hw'.out])
      have b3 : wr.cell? ⟨w.heap.size, 3, none⟩ = some (.slice Am nm cm) := hbx.cell 3
      have hlen := hwl'.out j
      go_wp2_with fail
      refine (appendUint9_any _ A k c _ nm _ hown.rd (by omega) (fun q hq => hq.1) (by omega)).mono ?_
      intro e w4 hret4
      obtain ⟨A4, c4, d4, rfl, hown4, hbel4, hc4, hm4, hd4⟩ := hret4.opened
      have hd4' : d4 = payM r 0 := by rw [hd4.out, hwj.out]; simp [payM, hm'.out]
      subst hd4'
      clear hret4 hd4
      have hbx4 := hbx.below hbel4 hbx.lt
      have hbel5 := hbel.trans (hbel4.mono hbel.size)
      have hown5 := hown4.lower hbel.size
      clear hown hbel hbx hown4 hbel4 b3 b2
      go_wp2_with fail
      go_loopw [3, 6] (fun v i wr => ∃ (q : Nat) (A : Option Addr) (k c : Nat), i = .int .i64 (q : Int) ∧ v = .slice A k c ∧ q ≤ nm ∧ OwnB w.heap.size wr (.slice A k c) (payM r q) ∧ Blk wr w.heap.size 27 #[.int .u64 (r.gen : Int), .int .u64 (r.seq : Int), .slice Aw j cw, .slice Am nm cm, .slice An nn cn] ∧ Below w.heap.size w wr) (fun _ i _ => nm - (intOf i).toNat)
      case atStart => exact ⟨0, A4, _, c4, rfl, rfl, by omega, hown5, hbx4, hbel5⟩
      case round =>
        clear hown5 hbx4 hbel5 hwj hlen
        obtain ⟨q, A, k, c, rfl, rfl, hq, hown, hbx, hbel⟩ := hrel
        have b3 : wr.cell? ⟨w.heap.size, 3, none⟩ = some (.slice Am nm cm) := hbx.cell 3
        by_cases hqn : q < nm
        · obtain ⟨m, hp⟩ : ∃ m, r.moves[q]? = some m := ⟨r.moves[q]'(by rw [← hm'.out]; exact hqn), List.getElem?_eq_getElem _⟩
          obtain ⟨b, o, rfl, hFb, hc⟩ := (h.mv.keep (Kp.of_below hbel hF)).at_ hp
          have hpo := h.ok.moves m (List.mem_of_getElem? hp)
          have hpv := hV.m m (List.mem_of_getElem? hp)
          have hnext := hid (payM_succ hp)
          have hbn : 0 ≤ m.block ∧ m.block < 65536 := by
            unfold MV.vld placeB at hpv
            simp only [Bool.and_eq_true] at hpv
            have h2 := hpv.2
            split at h2
            · rw [decide_eq_true_eq] at h2; omega
            · rw [decide_eq_true_eq] at h2; omega
          clear hp
          have hc' := hid hc
          clear hc
          unfold MV.vld pieceB at hpv
          simp only [Bool.and_eq_true, decide_eq_true_eq] at hpv
          obtain ⟨⟨hg0, hg1, hp0, hp1⟩, _⟩ := hpv
          obtain ⟨hb0, hb1⟩ := hbn
          obtain ⟨mg, mp, md, mb⟩ := m
          obtain ⟨gn, rfl⟩ := Int.eq_ofNat_of_zero_le hg0
          obtain ⟨pn, rfl⟩ := Int.eq_ofNat_of_zero_le hp0
          obtain ⟨bn, rfl⟩ := Int.eq_ofNat_of_zero_le hb0
          simp only at hg1 hp1 hb1
          have hd0 := hpo.d.1
          have hd1 := hpo.d.2
          simp only at hd0 hd1
          clear hpo
          have hgn : gn < 18446744073709551616 := by omega
          have hpn : pn < 18446744073709551616 := by omega
          have hbn : bn < 18446744073709551616 := by omega
          have eg := enc_len10 hgn
          have ep := enc_len10 hpn
          have eb := enc_len10 hbn
          have ez := enc_len10 (zig_lt hd0 hd1)
          go_wp2_with (first | (refine wpList_ldAt rfl 82 _ rfl b (o + q * 4) _ _ rfl hc'.out Try.underlying82 rfl info_mv ?_) | (refine wpList_stBlk rfl 82 _ _ rfl wr.heap.size 82 #[.int .i64 0, .int .i64 0, .int .i64 0, .int .i64 0] (MV.mk gn pn md bn).cells.toArray (Blk.new _ _ _) rfl rfl info_mv rfl rfl ?_; intro w2 hb2 hg2))
          have hz := hbel.size
          have hb3 : Below wr.heap.size wr w2 := ((Below.refl _ _).alloc (Nat.le_refl _) _).grown hg2 (by simp) (by intro k hk; injection hk with hk; omega)
          have hown2 := hown.rd.keep (Kp.of_below hb3 (fun k hk => hk.1))
          have hz2 : wr.heap.size < w2.heap.size := hb2.lt
          have hlen := hml'.out q
          have k0 := fun (w' : World) (hh : Blk w' wr.heap.size 82 (MV.mk gn pn md bn).cells.toArray) => (show w'.cell? ⟨wr.heap.size, 0, none⟩ = some (.int .i64 (gn : Int)) from hh.cell 0)
          have k1 := fun (w' : World) (hh : Blk w' wr.heap.size 82 (MV.mk gn pn md bn).cells.toArray) => (show w'.cell? ⟨wr.heap.size, 1, none⟩ = some (.int .i64 (pn : Int)) from hh.cell 1)
          have k2 := fun (w' : World) (hh : Blk w' wr.heap.size 82 (MV.mk gn pn md bn).cells.toArray) => (show w'.cell? ⟨wr.heap.size, 2, none⟩ = some (.int .i64 md) from hh.cell 2)
          have k3 := fun (w' : World) (hh : Blk w' wr.heap.size 82 (MV.mk gn pn md bn).cells.toArray) => (show w'.cell? ⟨wr.heap.size, 3, none⟩ = some (.int .i64 (bn : Int)) from hh.cell 3)
          have ew1 : IntKind.u64.wrap (gn : Int) = (gn : Int) := by rw [IntKind.wrap_u64]; omega
          have ew2 : IntKind.u64.wrap (pn : Int) = (pn : Int) := by rw [IntKind.wrap_u64]; omega
          have ew3 : IntKind.u64.wrap (bn : Int) = (bn : Int) := by rw [IntKind.wrap_u64]; omega
          go_region_held3 (fun w' => Blk w' wr.heap.size 82 (MV.mk gn pn md bn).cells.toArray)
            (first | exact hb2.drew | exact hb2.drew.below hbel4 hz2 | exact (hb2.drew.below hbel4 hz2).below hbel5 (by have := hbel4.size; simp at this; omega))
            (first | (go_at_call 72; refine (appendUint9_any _ A k c _ gn _ hown2.drew (by omega) (fun q hq => by have := hq.1; simp; omega) hgn).mono ?_; intro e w4 hret4; obtain ⟨A4, c4, d4, rfl, hown4, hbel4, hc4, hm4, hd4⟩ := hret4.opened; have hl4 : d4.length ≤ 5200 := (by rw [hd4.out, List.length_append]; omega)) | (go_at_call 72; refine (appendUint9_any _ A4 _ c4 d4 pn _ hown4.rd (by omega) (fun q hq => hq.1) hpn).mono ?_; intro e w5 hret5; obtain ⟨A5, c5, d5, rfl, hown5, hbel5, hc5, hm5, hd5⟩ := hret5.opened; have hl5 : d5.length ≤ 5300 := (by rw [hd5.out, List.length_append]; omega)))
          have hb5 := (hb2.drew.below hbel4 hz2).below hbel5 (by have := hbel4.size; simp at this; omega)
          have hbz5 : w2.heap.size ≤ w5.heap.size := by have := hbel4.size; have := hbel5.size; simp at *; omega
          have hbel25 : Below w2.heap.size w2 w5 := ((Below.refl w2.heap.size w2).drew.trans (hbel4.mono (by simp))).trans (hbel5.mono (by have := hbel4.size; simp at this; omega))
          clear hret4 hret5
          go_wp2_with fail
          go_region_held3 (fun w' => Blk w' wr.heap.size 82 (MV.mk gn pn md bn).cells.toArray)
            (first | exact hb5.drew | exact hb5.drew.below hbel6 (by simp; omega) | exact (hb5.drew.below hbel6 (by simp; omega)).below hbel7 (by have := hbel6.size; simp at this; omega))
            (first | (go_at_call 75; refine (appendInt9_any _ A5 _ c5 d5 md _ hown5.rd.drew (by omega) (fun q hq => by have := hq.1; simp; omega) hd0 hd1).mono ?_; intro e w6 hret6; obtain ⟨A6, c6, d6, rfl, hown6, hbel6, hc6, hm6, hd6⟩ := hret6.opened; have hl6 : d6.length ≤ 5400 := (by rw [hd6.out, List.length_append]; omega)) | (go_at_call 72; refine (appendUint9_any _ A6 _ c6 d6 bn _ hown6.rd (by omega) (fun q hq => hq.1) hbn).mono ?_; intro e w7 hret7; obtain ⟨A7, c7, d7, rfl, hown7, hbel7, hc7, hm7, hd7⟩ := hret7.opened))
          clear k0 k1 k2 k3 ew1 ew2 ew3
          have hd7' : d7 = payM r (q + 1) := by rw [hd7.out, hd6.out, hd5.out, hd4.out, hnext.out]; simp [MV.enc, List.append_assoc]
          subst hd7'
          go_wp2
          go_roundw
          case rel =>
            have hb57 : Below w5.heap.size w5 w7 := ((Below.refl w5.heap.size w5).drew.trans (hbel6.mono (by simp))).trans (hbel7.mono (by have := hbel6.size; simp at this; omega))
            have hbw5 := (hbel.trans (hb3.mono hz)).trans (hbel25.mono (by omega))
            exact ⟨q + 1, A7, _, c7, by go_num, rfl, by omega, hown7.lower (by have := hbel6.size; simp at this; omega), ((hbx.below hb3 hbx.lt).below hbel25 (by have := hbx.lt; omega)).below hb57 (by have := hbx.lt; omega), hbw5.trans (hb57.mono (by omega))⟩
          case measure => simp [intOf]; omega
        · have hqn : q = nm := by omega
          subst hqn
          have hfin := hid (show payl r = payM r q ++ enc r.note.length ++ r.note by rw [payl_eq, ← hm'.out])
          have b4 : wr.cell? ⟨w.heap.size, 4, none⟩ = some (.slice An nn cn) := hbx.cell 4
          have hlen := hml'.out q
          have hnl := hV.nn
          go_wp2_with fail
          refine (appendBytes9_any _ A k c _ F An nn cn r.note wr hown.rd (h.nt.keep (Kp.of_below hbel hF)) (by omega) (fun q hq => hq.1) (fun k hk => by have := hF k hk; have := hbel.size; omega)).mono ?_
          rintro e w6 ⟨v6, rfl, hown6, hbel6⟩
          go_wp2
          go_ret
          exact ⟨v6, rfl, by rw [hfin.out]; exact hown6.lower hbel.size, hbel.trans (hbel6.mono hbel.size)⟩

end Go.Proofs.Ytbcmpfdhpefdbaa
