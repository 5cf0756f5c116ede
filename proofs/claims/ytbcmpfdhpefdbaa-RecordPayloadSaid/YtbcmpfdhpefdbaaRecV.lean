/- The contracts of Valid. -/
import Derived.Test.YtbcmpfdhpefdbaaRec
set_option linter.unusedVariables false
set_option linter.unusedSimpArgs false
namespace Go.Proofs.Ytbcmpfdhpefdbaa
open Go.RowKit

theorem info_pw : (Try.prog.info? 77).map (·.size) = some 11 := by kernel_rfl
theorem info_mv : (Try.prog.info? 82).map (·.size) = some 4 := by kernel_rfl

def ValidPost (w : World) (r : Rec) (e : Ending) (w' : World) : Prop := e = .returned (.bool r.vld) ∧ Below w.heap.size w w'
theorem Rec.vld_of {r : Rec} (h : r.head = true) (hw : r.writes.all PW.vld = true) (hm : r.moves.all MV.vld = true) : r.vld = true := by simp [Rec.vld, h, hw, hm]

set_option maxRecDepth 100000 in
set_option maxHeartbeats 400000 in
theorem valid_bad (F : Nat → Prop) (r : Rec) (Aw : Option Addr) (nw cw : Nat) (Am : Option Addr) (nm cm : Nat) (An : Option Addr) (nn cn : Nat) (w : World) (h : RecIn w F r Aw nw cw Am nm cm An nn cn) (hb : r.head = false) :
    Calls Try.prog 21 #[.agg (recCells r Aw nw cw Am nm cm An nn cn)] w (ValidPost w r) := by
  have hfin := hid (show ∀ o, ValidPost w r (.returned (.bool false)) (w.alloc o) from fun o => ⟨by rw [show r.vld = false by simp [Rec.vld, hb]], (Below.refl _ _).alloc (Nat.le_refl _) _⟩)
  have hw := h.wr.1
  have hm := h.mv.1
  have hn := h.nt.1
  have hsq := h.ok.seq
  unfold Rec.head at hb
  rw [← hw, ← hm, ← hn, decide_eq_false_iff_not] at hb
  unfold U64 at hsq
  unfold recCells
  generalize r.gen = rg at *
  generalize r.seq = rs at *
  clear hw hm hn h
  go_enter Try.func21, Try.ntmps21
  go_wp2_with fail
  all_goals (go_ret; exact hfin.out _)

def zPW : Array Value := #[.int .i64 0, .int .i64 0, .int .u64 0, .int .u8 0, .int .u8 0, .int .u8 0, .int .u8 0, .int .u8 0, .int .u8 0, .int .u8 0, .int .u8 0]

set_option maxRecDepth 100000 in
set_option maxHeartbeats 1000000 in
theorem valid_good (F : Nat → Prop) (r : Rec) (Aw : Option Addr) (nw cw : Nat) (Am : Option Addr) (nm cm : Nat) (An : Option Addr) (nn cn : Nat) (w : World) (h : RecIn w F r Aw nw cw Am nm cm An nn cn) (hF : ∀ k, F k → k < w.heap.size) (hb : r.head = true) :
    Calls Try.prog 21 #[.agg (recCells r Aw nw cw Am nm cm An nn cn)] w (ValidPost w r) := by
  have hw := h.wr.1
  have hm := h.mv.1
  have hn := h.nt.1
  have hsq := h.ok.seq
  have hb' := hb
  unfold Rec.head at hb'
  rw [← hw, ← hm, ← hn, decide_eq_true_eq] at hb'
  obtain ⟨hb1, hb2, hb3, hb4⟩ := hb'
  unfold U64 at hsq
  have hbox : Blk (w.alloc (.cells (recCells r Aw nw cw Am nm cm An nn cn) 27)) w.heap.size 27 (recCells r Aw nw cw Am nm cm An nn cn) := Blk.new _ _ _
  have hbel0 : Below w.heap.size w (w.alloc (.cells (recCells r Aw nw cw Am nm cm An nn cn) 27)) := (Below.refl _ _).alloc (Nat.le_refl _) _
  have hfalse := hid (show ∀ w', r.vld = false → Below w.heap.size w w' → ValidPost w r (.returned (.bool false)) w' from fun w' h1 h2 => ⟨by rw [h1], h2⟩)
  have htrue := hid (show ∀ w', r.vld = true → Below w.heap.size w w' → ValidPost w r (.returned (.bool true)) w' from fun w' h1 h2 => ⟨by rw [h1], h2⟩)
  have hw' := hid hw
  have hm' := hid hm
  clear hw hm hn
  unfold recCells at hbox hbel0
  unfold recCells
  generalize hrs : r.seq = rs at *
  clear hrs
  go_enter Try.func21, Try.ntmps21
  go_wp2_with fail
  go_loopw [31] (fun i wr => ∃ j : Nat, i = .int .i64 (j : Int) ∧ j ≤ nw ∧ Hid ((r.writes.take j).all PW.vld = true) ∧ Blk wr w.heap.size 27 #[.int .u64 (r.gen : Int), .int .u64 (rs : Int), .slice Aw nw cw, .slice Am nm cm, .slice An nn cn] ∧ Below w.heap.size w wr) (fun i _ => nw - (intOf i).toNat)
  case atStart => exact ⟨0, rfl, by omega, rfl, hbox, hbel0⟩
  case round =>
    clear hbox hbel0
    obtain ⟨j, rfl, hj, hall, hbx, hbel⟩ := hrel
    by_cases hjn : j < nw
    · obtain ⟨p, hp⟩ : ∃ p, r.writes[j]? = some p := ⟨r.writes[j]'(by rw [← hw'.out]; exact hjn), List.getElem?_eq_getElem _⟩
      obtain ⟨b, o, rfl, hFb, hc⟩ := (h.wr.keep (Kp.of_below hbel hF)).at_ hp
      have hc' := hid hc
      have hp' := hid hp
      clear hc hp
      cases hv : p.vld with
      | true =>
        have hv' : pieceB p.group p.piece = true := hv
        have hnext := hid (show (r.writes.take (j + 1)).all PW.vld = true by rw [all_take_succ _ _ _ _ hp'.out, hall.out, hv]; rfl)
        clear hv
        go_wp2_with (first | (refine wpList_ldAt rfl 77 _ rfl b (o + j * 11) p.cells _ rfl hc'.out Try.underlying77 rfl info_pw ?_) | (refine wpList_stBlk rfl 77 _ _ rfl wr.heap.size 77 zPW p.cells.toArray (Blk.new _ _ _) rfl rfl info_pw rfl rfl ?_; intro w2 hb2 hg2; have c0 : w2.cell? ⟨wr.heap.size, 0, none⟩ = some (.int .i64 p.group) := hb2.cell 0; have c1 : w2.cell? ⟨wr.heap.size, 1, none⟩ = some (.int .i64 p.piece) := hb2.cell 1) | (go_at_call 54; refine (piece_any _ _ _).mono ?_; rintro e w' ⟨rfl, rfl⟩))
        go_roundw
        case rel =>
          have hb3 : Below w.heap.size w w2 := (hbel.alloc hbel.size _).grown hg2 (by simp; have := hbel.size; omega) (by intro k hk; injection hk with hk; have := hbel.size; omega)
          exact ⟨j + 1, by go_num, by omega, hnext, (hbx.alloc _).grown hg2 (by intro e; injection e with e; have := hbx.lt; omega), hb3⟩
        case measure => simp [intOf]; omega
      | false =>
        have hv' : pieceB p.group p.piece = false := hv
        have hbad := hid (show r.vld = false by simp [Rec.vld, all_of_take_false PW.vld _ _ _ hp'.out hv])
        clear hv
        go_wp2_with (first | (refine wpList_ldAt rfl 77 _ rfl b (o + j * 11) p.cells _ rfl hc'.out Try.underlying77 rfl info_pw ?_) | (refine wpList_stBlk rfl 77 _ _ rfl wr.heap.size 77 zPW p.cells.toArray (Blk.new _ _ _) rfl rfl info_pw rfl rfl ?_; intro w2 hb2 hg2; have c0 : w2.cell? ⟨wr.heap.size, 0, none⟩ = some (.int .i64 p.group) := hb2.cell 0; have c1 : w2.cell? ⟨wr.heap.size, 1, none⟩ = some (.int .i64 p.piece) := hb2.cell 1) | (go_at_call 54; refine (piece_any _ _ _).mono ?_; rintro e w' ⟨rfl, rfl⟩))
        go_ret
        have hb3 : Below w.heap.size w w2 := (hbel.alloc hbel.size _).grown hg2 (by simp; have := hbel.size; omega) (by intro k hk; injection hk with hk; have := hbel.size; omega)
        exact hfalse.out _ hbad.out hb3
    · have hjw : j = nw := by omega
      have hallw := hid (show r.writes.all PW.vld = true by rw [← hall.out, List.take_of_length_le (by rw [← hw'.out]; omega)])
      clear hall
      have hbx3 := hbx.cell 3
      go_wp2_with fail
      go_loopw [45] (fun i wr => ∃ j : Nat, i = .int .i64 (j : Int) ∧ j ≤ nm ∧ Hid ((r.moves.take j).all MV.vld = true) ∧ Below w.heap.size w wr) (fun i _ => nm - (intOf i).toNat)
      case atStart => exact ⟨0, rfl, by omega, rfl, hbel⟩
      case round =>
        clear hbx hbx3 hbel
        clear hjw hjn hj
        obtain ⟨j, rfl, hj, hall, hbel⟩ := hrel
        by_cases hjn : j < nm
        · obtain ⟨m, hp⟩ : ∃ m, r.moves[j]? = some m := ⟨r.moves[j]'(by rw [← hm'.out]; exact hjn), List.getElem?_eq_getElem _⟩
          obtain ⟨b, o, rfl, hFb, hc⟩ := (h.mv.keep (Kp.of_below hbel hF)).at_ hp
          have hc' := hid hc
          have hp' := hid hp
          clear hc hp
          have hb3 := hid (show ∀ w2, (wr.alloc (.cells #[.int .i64 0, .int .i64 0, .int .i64 0, .int .i64 0] 82)).grownBy w2 (some wr.heap.size) → Below w.heap.size w w2 from fun w2 hg2 => (hbel.alloc hbel.size _).grown hg2 (by simp; have := hbel.size; omega) (by intro k hk; injection hk with hk; have := hbel.size; omega))
          cases hv : pieceB m.group m.piece with
          | false =>
            have hbad := hid (show r.vld = false by simp [Rec.vld, all_of_take_false MV.vld _ _ _ hp'.out (by simp [MV.vld, hv])])
            go_wp2_with (first | (refine wpList_ldAt rfl 82 _ rfl b (o + j * 4) m.cells _ rfl hc'.out Try.underlying82 rfl info_mv ?_) | (refine wpList_stBlk rfl 82 _ _ rfl wr.heap.size 82 #[.int .i64 0, .int .i64 0, .int .i64 0, .int .i64 0] m.cells.toArray (Blk.new _ _ _) rfl rfl info_mv rfl rfl ?_; intro w2 hb2 hg2; have c0 : w2.cell? ⟨wr.heap.size, 0, none⟩ = some (.int .i64 m.group) := hb2.cell 0; have c1 : w2.cell? ⟨wr.heap.size, 1, none⟩ = some (.int .i64 m.piece) := hb2.cell 1; have c2 : w2.cell? ⟨wr.heap.size, 2, none⟩ = some (.int .i64 m.disk) := hb2.cell 2; have c3 : w2.cell? ⟨wr.heap.size, 3, none⟩ = some (.int .i64 m.block) := hb2.cell 3) | (go_at_call 54; refine (piece_any _ _ _).mono ?_; rintro e w' ⟨rfl, rfl⟩) | (go_at_call 55; refine (place_any _ _ _).mono ?_; rintro e w3 ⟨rfl, hb4⟩))
            go_ret
            exact hfalse.out _ hbad.out (hb3.out _ hg2)
          | true =>
            cases hv2 : placeB m.disk m.block with
            | false =>
              have hbad := hid (show r.vld = false by simp [Rec.vld, all_of_take_false MV.vld _ _ _ hp'.out (by simp [MV.vld, hv2])])
              go_wp2_with (first | (refine wpList_ldAt rfl 82 _ rfl b (o + j * 4) m.cells _ rfl hc'.out Try.underlying82 rfl info_mv ?_) | (refine wpList_stBlk rfl 82 _ _ rfl wr.heap.size 82 #[.int .i64 0, .int .i64 0, .int .i64 0, .int .i64 0] m.cells.toArray (Blk.new _ _ _) rfl rfl info_mv rfl rfl ?_; intro w2 hb2 hg2; have c0 : w2.cell? ⟨wr.heap.size, 0, none⟩ = some (.int .i64 m.group) := hb2.cell 0; have c1 : w2.cell? ⟨wr.heap.size, 1, none⟩ = some (.int .i64 m.piece) := hb2.cell 1; have c2 : w2.cell? ⟨wr.heap.size, 2, none⟩ = some (.int .i64 m.disk) := hb2.cell 2; have c3 : w2.cell? ⟨wr.heap.size, 3, none⟩ = some (.int .i64 m.block) := hb2.cell 3) | (go_at_call 54; refine (piece_any _ _ _).mono ?_; rintro e w' ⟨rfl, rfl⟩) | (go_at_call 55; refine (place_any _ _ _).mono ?_; rintro e w3 ⟨rfl, hb4⟩))
              go_ret
              exact hfalse.out _ hbad.out ((hb3.out _ hg2).trans (hb4.mono (hb3.out _ hg2).size))
            | true =>
              have hnext := hid (show (r.moves.take (j + 1)).all MV.vld = true by rw [all_take_succ _ _ _ _ hp'.out, hall.out]; simp [MV.vld, hv, hv2])
              go_wp2_with (first | (refine wpList_ldAt rfl 82 _ rfl b (o + j * 4) m.cells _ rfl hc'.out Try.underlying82 rfl info_mv ?_) | (refine wpList_stBlk rfl 82 _ _ rfl wr.heap.size 82 #[.int .i64 0, .int .i64 0, .int .i64 0, .int .i64 0] m.cells.toArray (Blk.new _ _ _) rfl rfl info_mv rfl rfl ?_; intro w2 hb2 hg2; have c0 : w2.cell? ⟨wr.heap.size, 0, none⟩ = some (.int .i64 m.group) := hb2.cell 0; have c1 : w2.cell? ⟨wr.heap.size, 1, none⟩ = some (.int .i64 m.piece) := hb2.cell 1; have c2 : w2.cell? ⟨wr.heap.size, 2, none⟩ = some (.int .i64 m.disk) := hb2.cell 2; have c3 : w2.cell? ⟨wr.heap.size, 3, none⟩ = some (.int .i64 m.block) := hb2.cell 3) | (go_at_call 54; refine (piece_any _ _ _).mono ?_; rintro e w' ⟨rfl, rfl⟩) | (go_at_call 55; refine (place_any _ _ _).mono ?_; rintro e w3 ⟨rfl, hb4⟩))
              go_roundw
              case rel => exact ⟨j + 1, by go_num, by omega, hnext, (hb3.out _ hg2).trans (hb4.mono (hb3.out _ hg2).size)⟩
              case measure => simp [intOf]; omega
        · have hall2 := hid (show r.moves.all MV.vld = true by rw [← hall.out, List.take_of_length_le (by rw [← hm'.out]; omega)])
          clear hall
          go_wp2
          go_ret
          exact htrue.out _ (Rec.vld_of hb hallw.out hall2.out) hbel

theorem valid_any (F : Nat → Prop) (r : Rec) (Aw : Option Addr) (nw cw : Nat) (Am : Option Addr) (nm cm : Nat) (An : Option Addr) (nn cn : Nat) (w : World) (h : RecIn w F r Aw nw cw Am nm cm An nn cn) (hF : ∀ k, F k → k < w.heap.size) :
    Calls Try.prog 21 #[.agg (recCells r Aw nw cw Am nm cm An nn cn)] w (ValidPost w r) := by
  cases hb : r.head with
  | false => exact valid_bad F r Aw nw cw Am nm cm An nn cn w h hb
  | true => exact valid_good F r Aw nw cw Am nm cm An nn cn w h hF hb

end Go.Proofs.Ytbcmpfdhpefdbaa
