/- The contracts of the reference's Valid. -/
import Derived.Test.YtbcmpfdhpefdbaaRecV
set_option linter.unusedVariables false
set_option linter.unusedSimpArgs false
namespace Go.Proofs.Ytbcmpfdhpefdbaa
open Go.RowKit

theorem piece_within (g p : Int) : pieceB g p = (withinB g 0 4095 && withinB p 0 15) := by
  unfold pieceB withinB
  rw [Bool.eq_iff_iff]
  simp
  omega
theorem place_within (d b : Int) : placeB d b = ((d == -1 && b == 0) || (withinB d 0 59 && withinB b 0 65535)) := by
  unfold placeB withinB
  by_cases h : d = -1
  · subst h
    rw [Bool.eq_iff_iff]
    simp
  · rw [if_neg h, Bool.eq_iff_iff]
    simp [h]
    omega

set_option maxRecDepth 100000 in
set_option maxHeartbeats 400000 in
theorem valid27_bad (F : Nat → Prop) (r : Rec) (Aw : Option Addr) (nw cw : Nat) (Am : Option Addr) (nm cm : Nat) (An : Option Addr) (nn cn : Nat) (w : World) (h : RecIn w F r Aw nw cw Am nm cm An nn cn) (hb : r.head = false) :
    Calls Try.prog 22 #[.agg (recCells r Aw nw cw Am nm cm An nn cn)] w (ValidPost w r) := by
  have hfin := hid (show ∀ o, ValidPost w r (.returned (.bool false)) (w.alloc o) from fun o => ⟨by rw [show r.vld = false by simp [Rec.vld, hb]], (Below.refl _ _).alloc (Nat.le_refl _) _⟩)
  have hw := h.wr.1
  have hm := h.mv.1
  have hn := h.nt.1
  have hsq := h.ok.seq
  unfold Rec.head at hb
  rw [← hw, ← hm, ← hn, decide_eq_false_iff_not] at hb
  unfold U64 at hsq
  unfold recCells
  generalize r.gen = rg at *
  generalize r.seq = rs at *
  clear hw hm hn h
  go_enter Try.func22, Try.ntmps22
  go_wp2_with fail
  all_goals (go_ret; exact hfin.out _)


set_option maxRecDepth 100000 in
set_option maxHeartbeats 8000000 in
theorem valid27_good (F : Nat → Prop) (r : Rec) (Aw : Option Addr) (nw cw : Nat) (Am : Option Addr) (nm cm : Nat) (An : Option Addr) (nn cn : Nat) (w : World) (h : RecIn w F r Aw nw cw Am nm cm An nn cn) (hF : ∀ k, F k → k < w.heap.size) (hb : r.head = true) :
    Calls Try.prog 22 #[.agg (recCells r Aw nw cw Am nm cm An nn cn)] w (ValidPost w r) := by
  have hw := h.wr.1
  have hm := h.mv.1
  have hn := h.nt.1
  have hsq := h.ok.seq
  have hb' := hb
  unfold Rec.head at hb'
  rw [← hw, ← hm, ← hn, decide_eq_true_eq] at hb'
  obtain ⟨hb1, hb2, hb3, hb4⟩ := hb'
  unfold U64 at hsq
  have hbox : Blk (w.alloc (.cells (recCells r Aw nw cw Am nm cm An nn cn) 27)) w.heap.size 27 (recCells r Aw nw cw Am nm cm An nn cn) := Blk.new _ _ _
  have hbel0 : Below w.heap.size w (w.alloc (.cells (recCells r Aw nw cw Am nm cm An nn cn) 27)) := (Below.refl _ _).alloc (Nat.le_refl _) _
  have hfalse := hid (show ∀ w', r.vld = false → Below w.heap.size w w' → ValidPost w r (.returned (.bool false)) w' from fun w' h1 h2 => ⟨by rw [h1], h2⟩)
  have htrue := hid (show ∀ w', r.vld = true → Below w.heap.size w w' → ValidPost w r (.returned (.bool true)) w' from fun w' h1 h2 => ⟨by rw [h1], h2⟩)
  have hw' := hid hw
  have hm' := hid hm
  clear hw hm hn
  unfold recCells at hbox hbel0
  unfold recCells
  generalize hrs : r.seq = rs at *
  clear hrs
  go_enter Try.func22, Try.ntmps22
  go_wp2_with fail
  go_loopw [3] (fun i wr => ∃ j : Nat, i = .int .i64 (j : Int) ∧ j ≤ nw ∧ Hid ((r.writes.take j).all PW.vld = true) ∧ Blk wr w.heap.size 27 #[.int .u64 (r.gen : Int), .int .u64 (rs : Int), .slice Aw nw cw, .slice Am nm cm, .slice An nn cn] ∧ Below w.heap.size w wr) (fun i _ => nw - (intOf i).toNat)
  case atStart => exact ⟨0, rfl, by omega, rfl, hbox, hbel0⟩
  case round =>
    clear hbox hbel0
    obtain ⟨j, rfl, hj, hall, hbx, hbel⟩ := hrel
    have b2 : wr.cell? ⟨w.heap.size, 2, none⟩ = some (.slice Aw nw cw) := hbx.cell 2
    by_cases hjn : j < nw
    · obtain ⟨p, hp⟩ : ∃ p, r.writes[j]? = some p := ⟨r.writes[j]'(by rw [← hw'.out]; exact hjn), List.getElem?_eq_getElem _⟩
      obtain ⟨b, o, rfl, hFb, hc⟩ := (h.wr.keep (Kp.of_below hbel hF)).at_ hp
      have c0 : wr.cell? ⟨b, o + j * 11, none⟩ = some (.int .i64 p.group) := hc 0 _ rfl
      have c1 : wr.cell? ⟨b, o + j * 11 + 1, none⟩ = some (.int .i64 p.piece) := hc 1 _ rfl
      have hp' := hid hp
      clear hc hp
      have hpv : p.vld = (withinB p.group 0 4095 && withinB p.piece 0 15) := piece_within _ _
      have hpv := hid hpv
      cases hv1 : withinB p.group 0 4095 with
      | false =>
        have hbad := hid (show r.vld = false by simp [Rec.vld, all_of_take_false PW.vld _ _ _ hp'.out (by rw [hpv.out, hv1]; rfl)])
        go_wp2_with (go_at_call 56; refine (within_any _ _ _ _).mono ?_; rintro e w' ⟨rfl, rfl⟩)
        go_ret
        exact hfalse.out _ hbad.out hbel
      | true =>
        cases hv2 : withinB p.piece 0 15 with
        | false =>
          have hbad := hid (show r.vld = false by simp [Rec.vld, all_of_take_false PW.vld _ _ _ hp'.out (by rw [hpv.out, hv1, hv2]; rfl)])
          go_wp2_with (go_at_call 56; refine (within_any _ _ _ _).mono ?_; rintro e w' ⟨rfl, rfl⟩)
          go_ret
          exact hfalse.out _ hbad.out hbel
        | true =>
          have hnext := hid (show (r.writes.take (j + 1)).all PW.vld = true by rw [all_take_succ _ _ _ _ hp'.out, hall.out, hpv.out, hv1, hv2]; rfl)
          go_wp2_with (go_at_call 56; refine (within_any _ _ _ _).mono ?_; rintro e w' ⟨rfl, rfl⟩)
          go_roundw
          case rel => exact ⟨j + 1, by go_num, by omega, hnext, hbx, hbel⟩
          case measure => simp [intOf]; omega
    · have hjw : j = nw := by omega
      have hallw := hid (show r.writes.all PW.vld = true by rw [← hall.out, List.take_of_length_le (by rw [← hw'.out]; omega)])
      clear hall
      go_wp2_with fail
      go_loopw [4] (fun i wr => ∃ j : Nat, i = .int .i64 (j : Int) ∧ j ≤ nm ∧ Hid ((r.moves.take j).all MV.vld = true) ∧ Blk wr w.heap.size 27 #[.int .u64 (r.gen : Int), .int .u64 (rs : Int), .slice Aw nw cw, .slice Am nm cm, .slice An nn cn] ∧ Below w.heap.size w wr) (fun i _ => nm - (intOf i).toNat)
      case atStart => exact ⟨0, rfl, by omega, rfl, hbx, hbel⟩
      case round =>
        clear hbx hbel b2
        clear hjw hjn hj
        obtain ⟨j, rfl, hj, hall, hbx, hbel⟩ := hrel
        have b3 : wr.cell? ⟨w.heap.size, 3, none⟩ = some (.slice Am nm cm) := hbx.cell 3
        by_cases hjn : j < nm
        · obtain ⟨m, hp⟩ : ∃ m, r.moves[j]? = some m := ⟨r.moves[j]'(by rw [← hm'.out]; exact hjn), List.getElem?_eq_getElem _⟩
          obtain ⟨b, o, rfl, hFb, hc⟩ := (h.mv.keep (Kp.of_below hbel hF)).at_ hp
          have hc' := hid hc
          have hp' := hid hp
          clear hc hp
          have hb3 := hid (show ∀ w2, (wr.alloc (.cells #[.int .i64 0, .int .i64 0, .int .i64 0, .int .i64 0] 82)).grownBy w2 (some wr.heap.size) → Below w.heap.size w w2 ∧ Blk w2 w.heap.size 27 #[.int .u64 (r.gen : Int), .int .u64 (rs : Int), .slice Aw nw cw, .slice (some ⟨b, o, none⟩) nm cm, .slice An nn cn] from fun w2 hg2 => ⟨(hbel.alloc hbel.size _).grown hg2 (by simp; have := hbel.size; omega) (by intro k hk; injection hk with hk; have := hbel.size; omega), (hbx.alloc _).grown hg2 (by intro e; injection e with e; have := hbx.lt; omega)⟩)
          have hmv : m.vld = ((withinB m.group 0 4095 && withinB m.piece 0 15) && ((m.disk == -1 && m.block == 0) || (withinB m.disk 0 59 && withinB m.block 0 65535))) := by unfold MV.vld; rw [piece_within, place_within]
          have hmv' := hid hmv
          clear hmv
          have hmf := hid (show m.vld = false → r.vld = false from fun e => by simp [Rec.vld, all_of_take_false MV.vld _ _ _ hp'.out e])
          have hmt := hid (show m.vld = true → (r.moves.take (j + 1)).all MV.vld = true from fun e => by rw [all_take_succ _ _ _ _ hp'.out, hall.out, e]; rfl)
          cases e5 : m.disk == -1 with
          | true =>
            cases e6 : m.block == 0 with
            | true =>
              go_wp2_with (first | (refine wpList_ldAt rfl 82 _ rfl b (o + j * 4) m.cells _ rfl hc'.out Try.underlying82 rfl info_mv ?_) | (refine wpList_stBlk rfl 82 _ _ rfl wr.heap.size 82 #[.int .i64 0, .int .i64 0, .int .i64 0, .int .i64 0] m.cells.toArray (Blk.new _ _ _) rfl rfl info_mv rfl rfl ?_; intro w2 hb2 hg2; have c0 : w2.cell? ⟨wr.heap.size, 0, none⟩ = some (.int .i64 m.group) := hb2.cell 0; have c1 : w2.cell? ⟨wr.heap.size, 1, none⟩ = some (.int .i64 m.piece) := hb2.cell 1; have c2 : w2.cell? ⟨wr.heap.size, 2, none⟩ = some (.int .i64 m.disk) := hb2.cell 2; have c3 : w2.cell? ⟨wr.heap.size, 3, none⟩ = some (.int .i64 m.block) := hb2.cell 3))
              cases e1 : withinB m.group 0 4095 with
              | true =>
                cases e2 : withinB m.piece 0 15 with
                | true =>
                  have hnext := hid (hmt.out (by rw [hmv'.out]; simp [e5, e6, e1, e2]))
                  go_wp2_with (go_at_call 56; refine (within_any _ _ _ _).mono ?_; rintro e w' ⟨rfl, rfl⟩)
                  go_roundw
                  case rel => exact ⟨j + 1, by go_num, by omega, hnext, (hb3.out _ hg2).2, (hb3.out _ hg2).1⟩
                  case measure => simp [intOf]; omega
                | false =>
                  have hbad := hid (hmf.out (by rw [hmv'.out]; simp [e5, e6, e1, e2]))
                  go_wp2_with (go_at_call 56; refine (within_any _ _ _ _).mono ?_; rintro e w' ⟨rfl, rfl⟩)
                  go_ret
                  exact hfalse.out _ hbad.out (hb3.out _ hg2).1
              | false =>
                have hbad := hid (hmf.out (by rw [hmv'.out]; simp [e5, e6, e1]))
                go_wp2_with (go_at_call 56; refine (within_any _ _ _ _).mono ?_; rintro e w' ⟨rfl, rfl⟩)
                go_ret
                exact hfalse.out _ hbad.out (hb3.out _ hg2).1
            | false =>
              go_wp2_with (first | (refine wpList_ldAt rfl 82 _ rfl b (o + j * 4) m.cells _ rfl hc'.out Try.underlying82 rfl info_mv ?_) | (refine wpList_stBlk rfl 82 _ _ rfl wr.heap.size 82 #[.int .i64 0, .int .i64 0, .int .i64 0, .int .i64 0] m.cells.toArray (Blk.new _ _ _) rfl rfl info_mv rfl rfl ?_; intro w2 hb2 hg2; have c0 : w2.cell? ⟨wr.heap.size, 0, none⟩ = some (.int .i64 m.group) := hb2.cell 0; have c1 : w2.cell? ⟨wr.heap.size, 1, none⟩ = some (.int .i64 m.piece) := hb2.cell 1; have c2 : w2.cell? ⟨wr.heap.size, 2, none⟩ = some (.int .i64 m.disk) := hb2.cell 2; have c3 : w2.cell? ⟨wr.heap.size, 3, none⟩ = some (.int .i64 m.block) := hb2.cell 3))
              cases e1 : withinB m.group 0 4095 with
              | true =>
                cases e2 : withinB m.piece 0 15 with
                | true =>
                  cases e3 : withinB m.disk 0 59 with
                  | true =>
                    cases e4 : withinB m.block 0 65535 with
                    | true =>
                      have hnext := hid (hmt.out (by rw [hmv'.out]; simp [e5, e6, e1, e2, e3, e4]))
                      go_wp2_with (go_at_call 56; refine (within_any _ _ _ _).mono ?_; rintro e w' ⟨rfl, rfl⟩)
                      go_roundw
                      case rel => exact ⟨j + 1, by go_num, by omega, hnext, (hb3.out _ hg2).2, (hb3.out _ hg2).1⟩
                      case measure => simp [intOf]; omega
                    | false =>
                      have hbad := hid (hmf.out (by rw [hmv'.out]; simp [e5, e6, e1, e2, e3, e4]))
                      go_wp2_with (go_at_call 56; refine (within_any _ _ _ _).mono ?_; rintro e w' ⟨rfl, rfl⟩)
                      go_ret
                      exact hfalse.out _ hbad.out (hb3.out _ hg2).1
                  | false =>
                    have hbad := hid (hmf.out (by rw [hmv'.out]; simp [e5, e6, e1, e2, e3]))
                    go_wp2_with (go_at_call 56; refine (within_any _ _ _ _).mono ?_; rintro e w' ⟨rfl, rfl⟩)
                    go_ret
                    exact hfalse.out _ hbad.out (hb3.out _ hg2).1
                | false =>
                  have hbad := hid (hmf.out (by rw [hmv'.out]; simp [e5, e6, e1, e2]))
                  go_wp2_with (go_at_call 56; refine (within_any _ _ _ _).mono ?_; rintro e w' ⟨rfl, rfl⟩)
                  go_ret
                  exact hfalse.out _ hbad.out (hb3.out _ hg2).1
              | false =>
                have hbad := hid (hmf.out (by rw [hmv'.out]; simp [e5, e6, e1]))
                go_wp2_with (go_at_call 56; refine (within_any _ _ _ _).mono ?_; rintro e w' ⟨rfl, rfl⟩)
                go_ret
                exact hfalse.out _ hbad.out (hb3.out _ hg2).1
          | false =>
            go_wp2_with (first | (refine wpList_ldAt rfl 82 _ rfl b (o + j * 4) m.cells _ rfl hc'.out Try.underlying82 rfl info_mv ?_) | (refine wpList_stBlk rfl 82 _ _ rfl wr.heap.size 82 #[.int .i64 0, .int .i64 0, .int .i64 0, .int .i64 0] m.cells.toArray (Blk.new _ _ _) rfl rfl info_mv rfl rfl ?_; intro w2 hb2 hg2; have c0 : w2.cell? ⟨wr.heap.size, 0, none⟩ = some (.int .i64 m.group) := hb2.cell 0; have c1 : w2.cell? ⟨wr.heap.size, 1, none⟩ = some (.int .i64 m.piece) := hb2.cell 1; have c2 : w2.cell? ⟨wr.heap.size, 2, none⟩ = some (.int .i64 m.disk) := hb2.cell 2; have c3 : w2.cell? ⟨wr.heap.size, 3, none⟩ = some (.int .i64 m.block) := hb2.cell 3))
            cases e1 : withinB m.group 0 4095 with
            | true =>
              cases e2 : withinB m.piece 0 15 with
              | true =>
                cases e3 : withinB m.disk 0 59 with
                | true =>
                  cases e4 : withinB m.block 0 65535 with
                  | true =>
                    have hnext := hid (hmt.out (by rw [hmv'.out]; simp [e5, e1, e2, e3, e4]))
                    go_wp2_with (go_at_call 56; refine (within_any _ _ _ _).mono ?_; rintro e w' ⟨rfl, rfl⟩)
                    go_roundw
                    case rel => exact ⟨j + 1, by go_num, by omega, hnext, (hb3.out _ hg2).2, (hb3.out _ hg2).1⟩
                    case measure => simp [intOf]; omega
                  | false =>
                    have hbad := hid (hmf.out (by rw [hmv'.out]; simp [e5, e1, e2, e3, e4]))
                    go_wp2_with (go_at_call 56; refine (within_any _ _ _ _).mono ?_; rintro e w' ⟨rfl, rfl⟩)
                    go_ret
                    exact hfalse.out _ hbad.out (hb3.out _ hg2).1
                | false =>
                  have hbad := hid (hmf.out (by rw [hmv'.out]; simp [e5, e1, e2, e3]))
                  go_wp2_with (go_at_call 56; refine (within_any _ _ _ _).mono ?_; rintro e w' ⟨rfl, rfl⟩)
                  go_ret
                  exact hfalse.out _ hbad.out (hb3.out _ hg2).1
              | false =>
                have hbad := hid (hmf.out (by rw [hmv'.out]; simp [e5, e1, e2]))
                go_wp2_with (go_at_call 56; refine (within_any _ _ _ _).mono ?_; rintro e w' ⟨rfl, rfl⟩)
                go_ret
                exact hfalse.out _ hbad.out (hb3.out _ hg2).1
            | false =>
              have hbad := hid (hmf.out (by rw [hmv'.out]; simp [e5, e1]))
              go_wp2_with (go_at_call 56; refine (within_any _ _ _ _).mono ?_; rintro e w' ⟨rfl, rfl⟩)
              go_ret
              exact hfalse.out _ hbad.out (hb3.out _ hg2).1
        · have hall2 := hid (show r.moves.all MV.vld = true by rw [← hall.out, List.take_of_length_le (by rw [← hm'.out]; omega)])
          clear hall
          go_wp2
          go_ret
          exact htrue.out _ (Rec.vld_of hb hallw.out hall2.out) hbel

theorem valid27_any (F : Nat → Prop) (r : Rec) (Aw : Option Addr) (nw cw : Nat) (Am : Option Addr) (nm cm : Nat) (An : Option Addr) (nn cn : Nat) (w : World) (h : RecIn w F r Aw nw cw Am nm cm An nn cn) (hF : ∀ k, F k → k < w.heap.size) :
    Calls Try.prog 22 #[.agg (recCells r Aw nw cw Am nm cm An nn cn)] w (ValidPost w r) := by
  cases hb : r.head with
  | false => exact valid27_bad F r Aw nw cw Am nm cm An nn cn w h hb
  | true => exact valid27_good F r Aw nw cw Am nm cm An nn cn w h hF hb

end Go.Proofs.Ytbcmpfdhpefdbaa
