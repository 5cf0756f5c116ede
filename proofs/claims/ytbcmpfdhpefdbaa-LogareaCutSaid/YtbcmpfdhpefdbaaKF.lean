/- The contract of 'payload'. The contract of the reference's Payload. Lists of byte strings in memory: reading them, and rows of them of the call's own. -/
import Derived.Test.YtbcmpfdhpefdbaaKE
set_option linter.unusedVariables false
set_option linter.unusedSimpArgs false
namespace Go.Proofs.Ytbcmpfdhpefdbaa
open Go.RowKit

/-- the payload up to the first j writes; up to the first j moves -/
def payW (r : Rec) (j : Nat) : List UInt8 := enc r.gen ++ enc r.seq ++ enc r.writes.length ++ (r.writes.take j).flatMap PW.enc
def payM (r : Rec) (j : Nat) : List UInt8 := payW r r.writes.length ++ enc r.moves.length ++ (r.moves.take j).flatMap MV.enc
theorem payl_eq (r : Rec) : payl r = payM r r.moves.length ++ enc r.note.length ++ r.note := by
  simp [payl, payM, payW, List.append_assoc]
theorem payW_succ {r : Rec} {j : Nat} {p : PW} (h : r.writes[j]? = some p) : payW r (j + 1) = payW r j ++ p.enc := by
  simp [payW, List.take_add_one, h, List.flatMap_append, List.append_assoc]
theorem payM_succ {r : Rec} {j : Nat} {p : MV} (h : r.moves[j]? = some p) : payM r (j + 1) = payM r j ++ p.enc := by
  simp [payM, List.take_add_one, h, List.flatMap_append, List.append_assoc]
theorem B8.list_len (x : B8) : x.list.length = 8 := rfl
theorem PW.enc_len {p : PW} (h : p.Ok) (hv : p.vld = true) : p.enc.length ≤ 38 := by
  unfold PW.vld pieceB at hv
  rw [decide_eq_true_eq] at hv
  have h1 := enc_len10 (n := p.group.toNat) (by omega)
  have h2 := enc_len10 (n := p.piece.toNat) (by omega)
  have h3 := enc_len10 h.v
  simp only [PW.enc, List.length_append, B8.list_len]
  omega
theorem MV.enc_len {m : MV} (h : m.Ok) (hv : m.vld = true) : m.enc.length ≤ 40 := by
  unfold MV.vld pieceB placeB at hv
  have h1 := enc_len10 (n := m.group.toNat) (by simp at hv; omega)
  have h2 := enc_len10 (n := m.piece.toNat) (by simp at hv; omega)
  have h3 := enc_len10 (zig_lt h.d.1 h.d.2)
  have h4 := enc_len10 (n := m.block.toNat) (by have := h.b.2; omega)
  simp only [MV.enc, List.length_append]
  omega
theorem flatMap_len {α : Type} (f : α → List UInt8) (k : Nat) (l : List α) (h : ∀ x ∈ l, (f x).length ≤ k) : (l.flatMap f).length ≤ k * l.length := by
  induction l with
  | nil => simp
  | cons a l ih =>
    have h1 := h a (by simp)
    have h2 := ih (fun x hx => h x (by simp [hx]))
    rw [List.flatMap_cons, List.length_append, List.length_cons, Nat.mul_add]
    omega
structure Rec.V (r : Rec) : Prop where
  (seq : 1 ≤ r.seq) (nw : r.writes.length ≤ 64) (nm : r.moves.length ≤ 64) (nn : r.note.length ≤ 256) (w : ∀ p ∈ r.writes, p.vld = true) (m : ∀ m ∈ r.moves, m.vld = true)
theorem Rec.V.of {r : Rec} (h : r.vld = true) : r.V := by
  simp only [Rec.vld, Rec.head, Bool.and_eq_true, decide_eq_true_eq, List.all_eq_true] at h
  exact ⟨h.1.1.1, h.1.1.2.1, h.1.1.2.2.1, h.1.1.2.2.2, h.1.2, h.2⟩
theorem payW_len {r : Rec} (ho : r.Ok) (hv : r.V) (j : Nat) : (payW r j).length ≤ 2500 := by
  have h1 := enc_len10 ho.gen
  have h2 := enc_len10 ho.seq
  have h3 := enc_len10 (n := r.writes.length) (by have := hv.nw; omega)
  have h4 := flatMap_len PW.enc 38 (r.writes.take j) (fun x hx => PW.enc_len (ho.writes x (List.mem_of_mem_take hx)) (hv.w x (List.mem_of_mem_take hx)))
  have h5 : (r.writes.take j).length ≤ 64 := by rw [List.length_take]; have := hv.nw; omega
  simp only [payW, List.length_append]
  omega
theorem payM_len {r : Rec} (ho : r.Ok) (hv : r.V) (j : Nat) : (payM r j).length ≤ 5100 := by
  have h1 := payW_len ho hv r.writes.length
  have h3 := enc_len10 (n := r.moves.length) (by have := hv.nm; omega)
  have h4 := flatMap_len MV.enc 40 (r.moves.take j) (fun x hx => MV.enc_len (ho.moves x (List.mem_of_mem_take hx)) (hv.m x (List.mem_of_mem_take hx)))
  have h5 : (r.moves.take j).length ≤ 64 := by rw [List.length_take]; have := hv.nm; omega
  simp only [payM, List.length_append]
  omega
theorem payl_len {r : Rec} (ho : r.Ok) (hv : r.V) : (payl r).length ≤ 5400 := by
  have h1 := payM_len ho hv r.moves.length
  have h3 := enc_len10 (n := r.note.length) (by have := hv.nn; omega)
  have := hv.nn
  rw [payl_eq]
  simp only [List.length_append]
  omega

set_option maxRecDepth 100000 in
set_option maxHeartbeats 1000000 in
theorem payload_any (F : Nat → Prop) (r : Rec) (Aw : Option Addr) (nw cw : Nat) (Am : Option Addr) (nm cm : Nat) (An : Option Addr) (nn cn : Nat) (w : World) (h : RecIn w F r Aw nw cw Am nm cm An nn cn) (hF : ∀ k, F k → k < w.heap.size) (hvld : r.vld = true) :
    Calls Try.prog 50 #[.agg (recCells r Aw nw cw Am nm cm An nn cn)] w (RetB w.heap.size w (payl r)) := by
  have hV := Rec.V.of hvld
  have hw := h.wr.1
  have hm := h.mv.1
  have hn := h.nt.1
  have hgen := h.ok.gen
  have hseq := h.ok.seq
  have hnw := hV.nw
  have hnm := hV.nm
  have hnn := hV.nn
  rw [← hw] at hnw
  rw [← hm] at hnm
  rw [← hn] at hnn
  unfold U64 at hgen hseq
  have hbox : Blk (w.alloc (.cells (recCells r Aw nw cw Am nm cm An nn cn) 27)) w.heap.size 27 (recCells r Aw nw cw Am nm cm An nn cn) := Blk.new _ _ _
  have hbel0 : Below w.heap.size w (w.alloc (.cells (recCells r Aw nw cw Am nm cm An nn cn) 27)) := (Below.refl _ _).alloc (Nat.le_refl _) _
  have hsz0 : (w.alloc (.cells (recCells r Aw nw cw Am nm cm An nn cn) 27)).heap.size = w.heap.size + 1 := by simp
  have hwl := payW_len h.ok hV
  have hml := payM_len h.ok hV
  have hw' := hid hw
  have hm' := hid hm
  have hn' := hid hn
  have hwl' := hid hwl
  have hml' := hid hml
  clear hwl hml
  have hpay0 := hid (show payW r 0 = [] ++ [r.gen, r.seq, nw].flatMap enc by simp [payW, hw])
  clear hw hm hn
  unfold recCells at hbox hbel0 hsz0
  unfold recCells
  go_enter Try.func50, Try.ntmps50
  go_wp2_with fail
  refine (numbers_blk (fun _ => False) none 0 0 [] (w.heap.size + 1) 3 3 [r.gen, r.seq, nw] (w.heap.size + 1) (w.alloc (.cells #[.int .u64 (r.gen : Int), .int .u64 (r.seq : Int), .slice Aw nw cw, .slice Am nm cm, .slice An nn cn] 27)) _ ?_ rfl ⟨rfl, Rd.none_⟩ (by simp) (by omega) (by omega) ?_ (fun _ h => h.elim) ?_ ?_).mono ?_
  · rw [← hsz0]; exact Blk.new _ _ _
  · intro n hn; simp at hn; rcases hn with rfl | rfl | rfl <;> omega
  · exact (Below.refl _ _).alloc (by rw [hsz0]; omega) _
  · simp
  rintro e w1 ⟨v1, rfl, hown1, hbel1⟩
  rw [← hpay0.out] at hown1
  obtain ⟨A1, c1, rfl, hc1, hm1⟩ := hown1.form
  have hbx1 := hbox.below hbel1 (by omega)
  have hbel1 := hbel0.trans (hbel1.mono (by omega))
  have hown1 := hown1.lower (base := w.heap.size) (by omega)
  clear hbox hbel0 hsz0
  have hb2 := hbx1.cell 2
  go_wp2_with fail
  go_loopw [3, 21] (fun v i wr => ∃ (j : Nat) (A : Option Addr) (k c : Nat), i = .int .i64 (j : Int) ∧ v = .slice A k c ∧ j ≤ nw ∧ OwnB w.heap.size wr (.slice A k c) (payW r j) ∧ Blk wr w.heap.size 27 #[.int .u64 (r.gen : Int), .int .u64 (r.seq : Int), .slice Aw nw cw, .slice Am nm cm, .slice An nn cn] ∧ Below w.heap.size w wr) (fun _ i _ => nw - (intOf i).toNat)
  case atStart => exact ⟨0, A1, _, c1, rfl, rfl, by omega, hown1, hbx1, hbel1⟩
  case round =>
    clear hown1 hbx1 hbel1 hb2
    obtain ⟨j, A, k, c, rfl, rfl, hj, hown, hbx, hbel⟩ := hrel
    by_cases hjn : j < nw
    · obtain ⟨p, hp⟩ : ∃ p, r.writes[j]? = some p := ⟨r.writes[j]'(by rw [← hw'.out]; exact hjn), List.getElem?_eq_getElem _⟩
      obtain ⟨b, o, rfl, hFb, hc⟩ := (h.wr.keep (Kp.of_below hbel hF)).at_ hp
      have hpo := h.ok.writes p (List.mem_of_getElem? hp)
      have hpv := hV.w p (List.mem_of_getElem? hp)
      have hnext := hid (payW_succ hp)
      clear hp
      have hc' := hid hc
      clear hc
      unfold PW.vld pieceB at hpv
      rw [decide_eq_true_eq] at hpv
      obtain ⟨hg0, hg1, hp0, hp1⟩ := hpv
      obtain ⟨pg, pp, pv, pd⟩ := p
      obtain ⟨gn, rfl⟩ := Int.eq_ofNat_of_zero_le hg0
      obtain ⟨pn, rfl⟩ := Int.eq_ofNat_of_zero_le hp0
      simp only at hg1 hp1
      have hpv' := hpo.v
      unfold U64 at hpv'
      simp only at hpv'
      have hpo' := hid hpo
      clear hpo
      go_wp2_with (first | (refine wpList_ldAt rfl 77 _ rfl b (o + j * 11) _ _ rfl hc'.out Try.underlying77 rfl info_pw ?_) | (refine wpList_stBlk rfl 77 _ _ rfl wr.heap.size 77 zPW (PW.mk gn pn pv pd).cells.toArray (Blk.new _ _ _) rfl rfl info_pw rfl rfl ?_; intro w2 hb2 hg2))
      have hz := hbel.size
      have hb3 : Below wr.heap.size wr w2 := ((Below.refl _ _).alloc (Nat.le_refl _) _).grown hg2 (by simp) (by intro k hk; injection hk with hk; omega)
      have hown2 := hown.rd.keep (Kp.of_below hb3 (fun k hk => hk.1))
      have hz2 : wr.heap.size < w2.heap.size := hb2.lt
      have hlen := hid (hwl'.out j)
      have k0 := fun (w' : World) (hh : Blk w' wr.heap.size 77 (PW.mk gn pn pv pd).cells.toArray) => (show w'.cell? ⟨wr.heap.size, 0, none⟩ = some (.int .i64 (gn : Int)) from hh.cell 0)
      have k1 := fun (w' : World) (hh : Blk w' wr.heap.size 77 (PW.mk gn pn pv pd).cells.toArray) => (show w'.cell? ⟨wr.heap.size, 1, none⟩ = some (.int .i64 (pn : Int)) from hh.cell 1)
      have k2 := fun (w' : World) (hh : Blk w' wr.heap.size 77 (PW.mk gn pn pv pd).cells.toArray) => (show w'.cell? ⟨wr.heap.size, 2, none⟩ = some (.int .u64 (pv : Int)) from hh.cell 2)
      have k3 := fun (w' : World) (hh : Blk w' wr.heap.size 77 (PW.mk gn pn pv pd).cells.toArray) => (show w'.cell? ⟨wr.heap.size, 3, none⟩ = some (.int .u8 (pd.b0.toNat : Int)) from hh.cell 3)
      have k4 := fun (w' : World) (hh : Blk w' wr.heap.size 77 (PW.mk gn pn pv pd).cells.toArray) => (show w'.cell? ⟨wr.heap.size, 4, none⟩ = some (.int .u8 (pd.b1.toNat : Int)) from hh.cell 4)
      have k5 := fun (w' : World) (hh : Blk w' wr.heap.size 77 (PW.mk gn pn pv pd).cells.toArray) => (show w'.cell? ⟨wr.heap.size, 5, none⟩ = some (.int .u8 (pd.b2.toNat : Int)) from hh.cell 5)
      have k6 := fun (w' : World) (hh : Blk w' wr.heap.size 77 (PW.mk gn pn pv pd).cells.toArray) => (show w'.cell? ⟨wr.heap.size, 6, none⟩ = some (.int .u8 (pd.b3.toNat : Int)) from hh.cell 6)
      have k7 := fun (w' : World) (hh : Blk w' wr.heap.size 77 (PW.mk gn pn pv pd).cells.toArray) => (show w'.cell? ⟨wr.heap.size, 7, none⟩ = some (.int .u8 (pd.b4.toNat : Int)) from hh.cell 7)
      have k8 := fun (w' : World) (hh : Blk w' wr.heap.size 77 (PW.mk gn pn pv pd).cells.toArray) => (show w'.cell? ⟨wr.heap.size, 8, none⟩ = some (.int .u8 (pd.b5.toNat : Int)) from hh.cell 8)
      have k9 := fun (w' : World) (hh : Blk w' wr.heap.size 77 (PW.mk gn pn pv pd).cells.toArray) => (show w'.cell? ⟨wr.heap.size, 9, none⟩ = some (.int .u8 (pd.b6.toNat : Int)) from hh.cell 9)
      have k10 := fun (w' : World) (hh : Blk w' wr.heap.size 77 (PW.mk gn pn pv pd).cells.toArray) => (show w'.cell? ⟨wr.heap.size, 10, none⟩ = some (.int .u8 (pd.b7.toNat : Int)) from hh.cell 10)
      have ew1 : IntKind.u64.wrap (gn : Int) = (gn : Int) := by rw [IntKind.wrap_u64]; omega
      have ew2 : IntKind.u64.wrap (pn : Int) = (pn : Int) := by rw [IntKind.wrap_u64]; omega
      go_region_held3 (fun w' => Blk w' wr.heap.size 77 (PW.mk gn pn pv pd).cells.toArray)
        (first | exact hb2.drew | exact (hb2.alloc _).drew | exact hb2.below hbel4 hz2 | exact (hb2.below hbel4 hz2).below hbel5 (by have := hbel4.size; omega))
        (first | (go_at_call 51; refine (numbers_blk _ A k c _ w2.heap.size 3 3 [gn, pn, pv] w2.heap.size w2 _ ((Blk.new w2 _ _).drew) rfl ((hown2.keep (fun k hk => Below.heap_alloc w2 _ _ (by omega))).drew) (by have := hlen.out; omega) (by omega) (by omega) (by intro n hn; simp at hn; rcases hn with rfl | rfl | rfl <;> omega) (by intro q hq; simp; omega) (((Below.refl _ _).alloc (Nat.le_refl _) _).drew) (by simp)).mono ?_; intro e w4 hret4; obtain ⟨A4, c4, d4, rfl, hown4, hbel4, hc4, hm4, hd4⟩ := hret4.opened; have hl4 : d4.length ≤ 10000 := (by have := hlen.out; have h6 := encs_len [gn, pn, pv] (by intro n hn; simp at hn; rcases hn with rfl | rfl | rfl <;> omega); rw [hd4.out, List.length_append]; simp only [List.length_cons, List.length_nil] at h6; omega)) | (go_at_call 78; refine (appendBlock_any _ A4 _ c4 d4 pd _ hown4.rd (by omega) (fun q hq => hq.1)).mono ?_; intro e w5 hret5; obtain ⟨A5, c5, d5, rfl, hown5, hbel5, hc5, hm5, hd5⟩ := hret5.opened))
      clear k0 k1 k2 k3 k4 k5 k6 k7 k8 k9 k10 ew1 ew2
      have hd5' : d5 = payW r (j + 1) := by rw [hd5.out, hd4.out, hnext.out]; simp [PW.enc, List.append_assoc]
      subst hd5'
      go_wp2
      go_roundw
      case rel =>
        have hbel3 := (hbel.trans (hb3.mono hz)).trans (hbel4.mono (by omega))
        exact ⟨j + 1, A5, _, c5, by go_num, rfl, by omega, hown5.lower hbel3.size, ((hbx.below hb3 hbx.lt).below hbel4 (by have := hbx.lt; omega)).below hbel5 (by have := hbx.lt; have := hbel4.size; omega), hbel3.trans (hbel5.mono hbel3.size)⟩
      case measure => simp [intOf]; omega
    · have hjn : j = nw := by omega
      subst hjn
      have hwj := hid (show payW r j = payW r r.writes.length by rw [← hw'.out])
      have hb3 := hbx.cell 3
      have hbx' := hbx.alloc (.cells #[.int .u64 (nm : Int)] 22)
      have hr3 := (hown.rd).keep (Kp.of_below ((Below.refl wr.heap.size wr).alloc (Nat.le_refl _) (.cells #[.int .u64 (nm : Int)] 22)) (fun k hk => hk.1))
      have hlen := hid (hwl'.out j)
      go_wp2_with fail
      refine (numbers_blk _ A k c _ wr.heap.size 1 1 [nm] wr.heap.size wr _ (Blk.new wr _ _) rfl hr3 (by have := hlen.out; omega) (by omega) (by omega) ?_ (fun q hq => by have := hq.1; simp; omega) ((Below.refl _ _).alloc (Nat.le_refl _) _) (by simp)).mono ?_
      · intro n hn; simp at hn; omega
      intro e w4 hret4
      obtain ⟨A4, c4, d4, rfl, hown4, hbel4, hc4, hm4, hd4⟩ := hret4.opened
      have hd4' : d4 = payM r 0 := by rw [hd4.out, hwj.out]; simp [payM, hm'.out]
      subst hd4'
      clear hret4 hr3 hbx' hd4
      have hbx4 := hbx.below hbel4 hbx.lt
      have hbel5 := hbel.trans (hbel4.mono hbel.size)
      have hown5 := hown4.lower hbel.size
      clear hown hbel hbx hown4 hbel4 hb3
      have hb3 := hbx4.cell 3
      go_wp2_with fail
      go_loopw [3, 50] (fun v i wr => ∃ (q : Nat) (A : Option Addr) (k c : Nat), i = .int .i64 (q : Int) ∧ v = .slice A k c ∧ q ≤ nm ∧ OwnB w.heap.size wr (.slice A k c) (payM r q) ∧ Blk wr w.heap.size 27 #[.int .u64 (r.gen : Int), .int .u64 (r.seq : Int), .slice Aw j cw, .slice Am nm cm, .slice An nn cn] ∧ Below w.heap.size w wr) (fun _ i _ => nm - (intOf i).toNat)
      case atStart => exact ⟨0, A4, _, c4, rfl, rfl, by omega, hown5, hbx4, hbel5⟩
      case round =>
        clear hown5 hbx4 hbel5 hb3 hwj hlen
        obtain ⟨q, A, k, c, rfl, rfl, hq, hown, hbx, hbel⟩ := hrel
        by_cases hqn : q < nm
        · obtain ⟨m, hp⟩ : ∃ m, r.moves[q]? = some m := ⟨r.moves[q]'(by rw [← hm'.out]; exact hqn), List.getElem?_eq_getElem _⟩
          obtain ⟨b, o, rfl, hFb, hc⟩ := (h.mv.keep (Kp.of_below hbel hF)).at_ hp
          have hpo := h.ok.moves m (List.mem_of_getElem? hp)
          have hpv := hV.m m (List.mem_of_getElem? hp)
          have hnext := hid (payM_succ hp)
          have hbn : 0 ≤ m.block ∧ m.block < 65536 := by
            unfold MV.vld placeB at hpv
            simp only [Bool.and_eq_true] at hpv
            have h2 := hpv.2
            split at h2
            · rw [decide_eq_true_eq] at h2; omega
            · rw [decide_eq_true_eq] at h2; omega
          clear hp
          have hc' := hid hc
          clear hc
          unfold MV.vld pieceB at hpv
          simp only [Bool.and_eq_true, decide_eq_true_eq] at hpv
          obtain ⟨⟨hg0, hg1, hp0, hp1⟩, _⟩ := hpv
          obtain ⟨hb0, hb1⟩ := hbn
          obtain ⟨mg, mp, md, mb⟩ := m
          obtain ⟨gn, rfl⟩ := Int.eq_ofNat_of_zero_le hg0
          obtain ⟨pn, rfl⟩ := Int.eq_ofNat_of_zero_le hp0
          obtain ⟨bn, rfl⟩ := Int.eq_ofNat_of_zero_le hb0
          simp only at hg1 hp1 hb1
          have hd0 := hpo.d.1
          have hd1 := hpo.d.2
          simp only at hd0 hd1
          clear hpo
          go_wp2_with (first | (refine wpList_ldAt rfl 82 _ rfl b (o + q * 4) _ _ rfl hc'.out Try.underlying82 rfl info_mv ?_) | (refine wpList_stBlk rfl 82 _ _ rfl wr.heap.size 82 #[.int .i64 0, .int .i64 0, .int .i64 0, .int .i64 0] (MV.mk gn pn md bn).cells.toArray (Blk.new _ _ _) rfl rfl info_mv rfl rfl ?_; intro w2 hb2 hg2))
          have hz := hbel.size
          have hb3 : Below wr.heap.size wr w2 := ((Below.refl _ _).alloc (Nat.le_refl _) _).grown hg2 (by simp) (by intro k hk; injection hk with hk; omega)
          have hown2 := hown.rd.keep (Kp.of_below hb3 (fun k hk => hk.1))
          have hz2 : wr.heap.size < w2.heap.size := hb2.lt
          have hlen := hid (hml'.out q)
          have k0 := fun (w' : World) (hh : Blk w' wr.heap.size 82 (MV.mk gn pn md bn).cells.toArray) => (show w'.cell? ⟨wr.heap.size, 0, none⟩ = some (.int .i64 (gn : Int)) from hh.cell 0)
          have k1 := fun (w' : World) (hh : Blk w' wr.heap.size 82 (MV.mk gn pn md bn).cells.toArray) => (show w'.cell? ⟨wr.heap.size, 1, none⟩ = some (.int .i64 (pn : Int)) from hh.cell 1)
          have k2 := fun (w' : World) (hh : Blk w' wr.heap.size 82 (MV.mk gn pn md bn).cells.toArray) => (show w'.cell? ⟨wr.heap.size, 2, none⟩ = some (.int .i64 md) from hh.cell 2)
          have k3 := fun (w' : World) (hh : Blk w' wr.heap.size 82 (MV.mk gn pn md bn).cells.toArray) => (show w'.cell? ⟨wr.heap.size, 3, none⟩ = some (.int .i64 (bn : Int)) from hh.cell 3)
          have ew1 : IntKind.u64.wrap (gn : Int) = (gn : Int) := by rw [IntKind.wrap_u64]; omega
          have ew2 : IntKind.u64.wrap (pn : Int) = (pn : Int) := by rw [IntKind.wrap_u64]; omega
          go_region_held3 (fun w' => Blk w' wr.heap.size 82 (MV.mk gn pn md bn).cells.toArray)
            (first | exact hb2.drew | exact (hb2.alloc _).drew | exact hb2.below hbel4 hz2 | exact (hb2.below hbel4 hz2).below hbel5 (by have := hbel4.size; omega))
            (first | (go_at_call 51; refine (numbers_blk _ A k c _ w2.heap.size 2 2 [gn, pn] w2.heap.size w2 _ ((Blk.new w2 _ _).drew) rfl ((hown2.keep (fun k hk => Below.heap_alloc w2 _ _ (by omega))).drew) (by have := hlen.out; omega) (by omega) (by omega) (by intro n hn; simp at hn; rcases hn with rfl | rfl <;> omega) (by intro q hq; simp; omega) (((Below.refl _ _).alloc (Nat.le_refl _) _).drew) (by simp)).mono ?_; intro e w4 hret4; obtain ⟨A4, c4, d4, rfl, hown4, hbel4, hc4, hm4, hd4⟩ := hret4.opened; have hl4 : d4.length ≤ 10000 := (by have := hlen.out; have h6 := encs_len [gn, pn] (by intro n hn; simp at hn; rcases hn with rfl | rfl <;> omega); rw [hd4.out, List.length_append]; simp only [List.length_cons, List.length_nil] at h6; omega)) | (go_at_call 79; refine (appendInt_any _ A4 _ c4 d4 md _ hown4.rd (by omega) (fun q hq => hq.1) hd0 hd1).mono ?_; intro e w5 hret5; obtain ⟨A5, c5, d5, rfl, hown5, hbel5, hc5, hm5, hd5⟩ := hret5.opened))
          have hl5 : d5.length ≤ 20000 := by rw [hd5.out, List.length_append]; have := enc_len10 (zig_lt hd0 hd1); omega
          have hb5 := (hb2.below hbel4 hz2).below hbel5 (by have := hbel4.size; omega)
          have h53 : w5.cell? ⟨wr.heap.size, 3, none⟩ = some (.int .i64 (bn : Int)) := hb5.cell 3
          clear k0 k1 k2 k3 ew1 ew2 hret4 hret5
          have hr5 := hown5.rd.keep (Kp.of_below ((Below.refl w5.heap.size w5).alloc (Nat.le_refl _) (.cells #[.int .u64 (bn : Int)] 22)) (fun k hk => hk.1))
          go_wp2_with fail
          refine (numbers_blk _ A5 _ c5 d5 w5.heap.size 1 1 [bn] w5.heap.size w5 _ (Blk.new w5 _ _) rfl hr5 (by omega) (by omega) (by omega) ?_ (fun q hq => by have := hq.1; simp; omega) ((Below.refl _ _).alloc (Nat.le_refl _) _) (by simp)).mono ?_
          · intro n hn; simp at hn; omega
          intro e w6 hret6
          obtain ⟨A6, c6, d6, rfl, hown6, hbel6, hc6, hm6, hd6⟩ := hret6.opened
          have hd6' : d6 = payM r (q + 1) := by rw [hd6.out, hd5.out, hd4.out, hnext.out]; simp [MV.enc, List.append_assoc]
          subst hd6'
          clear hret6 hd6
          go_wp2
          go_roundw
          case rel =>
            have hbel3 := (hbel.trans (hb3.mono hz)).trans ((hbel4.mono (by omega)).trans (hbel5.mono (by have := hbel4.size; omega)))
            have hz5 : wr.heap.size < w5.heap.size := hb5.lt
            have hbx5 := ((hbx.below hb3 hbx.lt).below hbel4 (by have := hbx.lt; omega)).below hbel5 (by have := hbx.lt; have := hbel4.size; omega)
            exact ⟨q + 1, A6, _, c6, by go_num, rfl, by omega, hown6.lower hbel3.size, hbx5.below hbel6 (by have := hbx.lt; omega), hbel3.trans (hbel6.mono hbel3.size)⟩
          case measure => simp [intOf]; omega
        · have hqn : q = nm := by omega
          subst hqn
          have hfin := hid (show payl r = payM r q ++ enc r.note.length ++ r.note by rw [payl_eq, ← hm'.out])
          have hb4 := hbx.cell 4
          have hlen := hid (hml'.out q)
          go_wp2_with fail
          refine (appendBytes_any _ A k c _ F An nn cn r.note wr hown.rd (h.nt.keep (Kp.of_below hbel hF)) (by have := hlen.out; have := hV.nn; omega) (fun q hq => hq.1) (fun k hk => by have := hF k hk; have := hbel.size; omega)).mono ?_
          rintro e w6 ⟨v6, rfl, hown6, hbel6⟩
          go_wp2
          go_ret
          exact ⟨v6, rfl, by rw [hfin.out]; exact hown6.lower hbel.size, hbel.trans (hbel6.mono hbel.size)⟩

end Go.Proofs.Ytbcmpfdhpefdbaa

namespace Go.Proofs.Ytbcmpfdhpefdbaa
open Go.RowKit
attribute [local irreducible] Go.Calls

set_option maxRecDepth 100000 in
set_option maxHeartbeats 2000000 in
theorem payload27_any (F : Nat → Prop) (r : Rec) (Aw : Option Addr) (nw cw : Nat) (Am : Option Addr) (nm cm : Nat) (An : Option Addr) (nn cn : Nat) (w : World) (h : RecIn w F r Aw nw cw Am nm cm An nn cn) (hF : ∀ k, F k → k < w.heap.size) (hvld : r.vld = true) :
    Calls Try.prog 31 #[.agg (recCells r Aw nw cw Am nm cm An nn cn)] w (RetB w.heap.size w (payl r)) := by
  have hV := Rec.V.of hvld
  have hw := h.wr.1
  have hm := h.mv.1
  have hn := h.nt.1
  have hgen := h.ok.gen
  have hseq := h.ok.seq
  have hnw := hV.nw
  have hnm := hV.nm
  have hnn := hV.nn
  rw [← hw] at hnw
  rw [← hm] at hnm
  rw [← hn] at hnn
  unfold U64 at hgen hseq
  have hg10 := enc_len10 hgen
  have hs10 := enc_len10 hseq
  have hbox : Blk (w.alloc (.cells (recCells r Aw nw cw Am nm cm An nn cn) 27)) w.heap.size 27 (recCells r Aw nw cw Am nm cm An nn cn) := Blk.new _ _ _
  have hbel0 : Below w.heap.size w (w.alloc (.cells (recCells r Aw nw cw Am nm cm An nn cn) 27)) := (Below.refl _ _).alloc (Nat.le_refl _) _
  have hsz0 : w.heap.size < (w.alloc (.cells (recCells r Aw nw cw Am nm cm An nn cn) 27)).heap.size := by simp
  have hwl' := hid (payW_len h.ok hV)
  have hml' := hid (payM_len h.ok hV)
  have hw' := hid hw
  have hm' := hid hm
  have hn' := hid hn
  have hpay0 := hid (show payW r 0 = (([] ++ enc r.gen) ++ enc r.seq) ++ enc nw by simp [payW, hw])
  clear hw hm hn
  unfold recCells at hbox hbel0 hsz0
  unfold recCells
  have q0 := fun (w' : World) (hh : Blk w' w.heap.size 27 #[.int .u64 (r.gen : Int), .int .u64 (r.seq : Int), .slice Aw nw cw, .slice Am nm cm, .slice An nn cn]) => (show w'.cell? ⟨w.heap.size, 0, none⟩ = some (.int .u64 (r.gen : Int)) from hh.cell 0)
  have q1 := fun (w' : World) (hh : Blk w' w.heap.size 27 #[.int .u64 (r.gen : Int), .int .u64 (r.seq : Int), .slice Aw nw cw, .slice Am nm cm, .slice An nn cn]) => (show w'.cell? ⟨w.heap.size, 1, none⟩ = some (.int .u64 (r.seq : Int)) from hh.cell 1)
  go_enter Try.func31, Try.ntmps31
  go_wp2_with fail
  go_region_held3 (fun w' => Blk w' w.heap.size 27 #[.int .u64 (r.gen : Int), .int .u64 (r.seq : Int), .slice Aw nw cw, .slice Am nm cm, .slice An nn cn])
    (first | exact hbox.drew | exact hbox.drew.below hbel1 hsz0 | exact (hbox.drew.below hbel1 hsz0).below hbel2 (by have := hbel1.size; simp at this; omega))
    (first | (go_at_call 72; (refine (appendUint9_any (fun _ => False) none 0 0 [] r.gen _ ⟨rfl, Rd.none_⟩ (by simp) (fun _ h => h.elim) hgen).mono ?_); intro e w1 hret1; obtain ⟨A1, c1, d1, rfl, hown1, hbel1, hc1, hm1, hd1⟩ := hret1.opened; have hl1 : d1.length ≤ 10 := (by rw [hd1.out]; simpa using hg10)) | (go_at_call 72; (refine (appendUint9_any _ A1 _ c1 d1 r.seq _ hown1.rd (by omega) (fun q hq => hq.1) hseq).mono ?_); intro e w2 hret2; obtain ⟨A2, c2, d2, rfl, hown2, hbel2, hc2, hm2, hd2⟩ := hret2.opened; have hl2 : d2.length ≤ 20 := (by rw [hd2.out, List.length_append]; omega)))
  have hbx2 := (hbox.drew.below hbel1 hsz0).below hbel2 (by have := hbel1.size; simp at this; omega)
  have hbelw2 : Below w.heap.size w w2 := (hbel0.drew.trans (hbel1.mono (by simp))).trans (hbel2.mono (by have := hbel1.size; simp at this; omega))
  have hownw2 := hown2.lower (base := w.heap.size) (by have := hbel1.size; simp at this; omega)
  clear hret1 hret2 hown1 q0 q1
  have b2 : w2.cell? ⟨w.heap.size, 2, none⟩ = some (.slice Aw nw cw) := hbx2.cell 2
  go_wp2_with fail
  refine (appendUint9_any _ A2 _ c2 d2 nw _ hownw2.rd (by omega) (fun q hq => hq.1) (by omega)).mono ?_
  intro e w3 hret3
  obtain ⟨A3, c3, d3, rfl, hown3, hbel3, hc3, hm3, hd3⟩ := hret3.opened
  have hd3' : d3 = payW r 0 := by rw [hd3.out, hd2.out, hd1.out, hpay0.out]
  subst hd3'
  have hbx3 := hbx2.below hbel3 hbx2.lt
  have hbelw3 := hbelw2.trans (hbel3.mono hbelw2.size)
  have hownw3 := hown3.lower hbelw2.size
  clear hret3 hd3 hown3 hbel3 hbx2 hbelw2 hownw2 b2 hown2 hbel2 hbel1 hbox hbel0
  go_wp2_with fail
  go_loopw [3, 4] (fun v i wr => ∃ (j : Nat) (A : Option Addr) (k c : Nat), i = .int .i64 (j : Int) ∧ v = .slice A k c ∧ j ≤ nw ∧ OwnB w.heap.size wr (.slice A k c) (payW r j) ∧ Blk wr w.heap.size 27 #[.int .u64 (r.gen : Int), .int .u64 (r.seq : Int), .slice Aw nw cw, .slice Am nm cm, .slice An nn cn] ∧ Below w.heap.size w wr) (fun _ i _ => nw - (intOf i).toNat)
  case atStart => exact ⟨0, A3, _, c3, rfl, rfl, by omega, hownw3, hbx3, hbelw3⟩
  case round =>
    clear hownw3 hbx3 hbelw3
    obtain ⟨j, A, k, c, rfl, rfl, hj, hown, hbx, hbel⟩ := hrel
    have b2 : wr.cell? ⟨w.heap.size, 2, none⟩ = some (.slice Aw nw cw) := hbx.cell 2
    by_cases hjn : j < nw
    · obtain ⟨p, hp⟩ : ∃ p, r.writes[j]? = some p := ⟨r.writes[j]'(by rw [← hw'.out]; exact hjn), List.getElem?_eq_getElem _⟩
      obtain ⟨b, o, rfl, hFb, hc⟩ := (h.wr.keep (Kp.of_below hbel hF)).at_ hp
      have hpo := h.ok.writes p (List.mem_of_getElem? hp)
      have hpv := hV.w p (List.mem_of_getElem? hp)
      have hnext := hid (payW_succ hp)
      clear hp
      have hc' := hid hc
      clear hc
      unfold PW.vld pieceB at hpv
      rw [decide_eq_true_eq] at hpv
      obtain ⟨hg0, hg1, hp0, hp1⟩ := hpv
      obtain ⟨pg, pp, pv, pd⟩ := p
      obtain ⟨gn, rfl⟩ := Int.eq_ofNat_of_zero_le hg0
      obtain ⟨pn, rfl⟩ := Int.eq_ofNat_of_zero_le hp0
      simp only at hg1 hp1
      have hpv' := hpo.v
      unfold U64 at hpv'
      simp only at hpv'
      clear hpo
      have hgn : gn < 18446744073709551616 := by omega
      have hpn : pn < 18446744073709551616 := by omega
      have eg := enc_len10 hgn
      have ep := enc_len10 hpn
      have ev := enc_len10 hpv'
      go_wp2_with (first | (refine wpList_ldAt rfl 77 _ rfl b (o + j * 11) _ _ rfl hc'.out Try.underlying77 rfl info_pw ?_) | (refine wpList_stBlk rfl 77 _ _ rfl wr.heap.size 77 zPW (PW.mk gn pn pv pd).cells.toArray (Blk.new _ _ _) rfl rfl info_pw rfl rfl ?_; intro w2 hb2 hg2))
      have hz := hbel.size
      have hb3 : Below wr.heap.size wr w2 := ((Below.refl _ _).alloc (Nat.le_refl _) _).grown hg2 (by simp) (by intro k hk; injection hk with hk; omega)
      have hown2 := hown.rd.keep (Kp.of_below hb3 (fun k hk => hk.1))
      have hz2 : wr.heap.size < w2.heap.size := hb2.lt
      have hlen := hwl'.out j
      have k0 := fun (w' : World) (hh : Blk w' wr.heap.size 77 (PW.mk gn pn pv pd).cells.toArray) => (show w'.cell? ⟨wr.heap.size, 0, none⟩ = some (.int .i64 (gn : Int)) from hh.cell 0)
      have k1 := fun (w' : World) (hh : Blk w' wr.heap.size 77 (PW.mk gn pn pv pd).cells.toArray) => (show w'.cell? ⟨wr.heap.size, 1, none⟩ = some (.int .i64 (pn : Int)) from hh.cell 1)
      have k2 := fun (w' : World) (hh : Blk w' wr.heap.size 77 (PW.mk gn pn pv pd).cells.toArray) => (show w'.cell? ⟨wr.heap.size, 2, none⟩ = some (.int .u64 (pv : Int)) from hh.cell 2)
      have k3 := fun (w' : World) (hh : Blk w' wr.heap.size 77 (PW.mk gn pn pv pd).cells.toArray) => (show w'.cell? ⟨wr.heap.size, 3, none⟩ = some (.int .u8 (pd.b0.toNat : Int)) from hh.cell 3)
      have k4 := fun (w' : World) (hh : Blk w' wr.heap.size 77 (PW.mk gn pn pv pd).cells.toArray) => (show w'.cell? ⟨wr.heap.size, 4, none⟩ = some (.int .u8 (pd.b1.toNat : Int)) from hh.cell 4)
      have k5 := fun (w' : World) (hh : Blk w' wr.heap.size 77 (PW.mk gn pn pv pd).cells.toArray) => (show w'.cell? ⟨wr.heap.size, 5, none⟩ = some (.int .u8 (pd.b2.toNat : Int)) from hh.cell 5)
      have k6 := fun (w' : World) (hh : Blk w' wr.heap.size 77 (PW.mk gn pn pv pd).cells.toArray) => (show w'.cell? ⟨wr.heap.size, 6, none⟩ = some (.int .u8 (pd.b3.toNat : Int)) from hh.cell 6)
      have k7 := fun (w' : World) (hh : Blk w' wr.heap.size 77 (PW.mk gn pn pv pd).cells.toArray) => (show w'.cell? ⟨wr.heap.size, 7, none⟩ = some (.int .u8 (pd.b4.toNat : Int)) from hh.cell 7)
      have k8 := fun (w' : World) (hh : Blk w' wr.heap.size 77 (PW.mk gn pn pv pd).cells.toArray) => (show w'.cell? ⟨wr.heap.size, 8, none⟩ = some (.int .u8 (pd.b5.toNat : Int)) from hh.cell 8)
      have k9 := fun (w' : World) (hh : Blk w' wr.heap.size 77 (PW.mk gn pn pv pd).cells.toArray) => (show w'.cell? ⟨wr.heap.size, 9, none⟩ = some (.int .u8 (pd.b6.toNat : Int)) from hh.cell 9)
      have k10 := fun (w' : World) (hh : Blk w' wr.heap.size 77 (PW.mk gn pn pv pd).cells.toArray) => (show w'.cell? ⟨wr.heap.size, 10, none⟩ = some (.int .u8 (pd.b7.toNat : Int)) from hh.cell 10)
      have ew1 : IntKind.u64.wrap (gn : Int) = (gn : Int) := by rw [IntKind.wrap_u64]; omega
      have ew2 : IntKind.u64.wrap (pn : Int) = (pn : Int) := by rw [IntKind.wrap_u64]; omega
      go_region_held3 (fun w' => Blk w' wr.heap.size 77 (PW.mk gn pn pv pd).cells.toArray)
        (first | exact hb2.drew | exact hb2.drew.below hbel4 hz2 | exact (hb2.drew.below hbel4 hz2).below hbel5 (by have := hbel4.size; simp at this; omega))
        (first | (go_at_call 72; refine (appendUint9_any _ A k c _ gn _ hown2.drew (by omega) (fun q hq => by have := hq.1; simp; omega) hgn).mono ?_; intro e w4 hret4; obtain ⟨A4, c4, d4, rfl, hown4, hbel4, hc4, hm4, hd4⟩ := hret4.opened; have hl4 : d4.length ≤ 2600 := (by rw [hd4.out, List.length_append]; omega)) | (go_at_call 72; refine (appendUint9_any _ A4 _ c4 d4 pn _ hown4.rd (by omega) (fun q hq => hq.1) hpn).mono ?_; intro e w5 hret5; obtain ⟨A5, c5, d5, rfl, hown5, hbel5, hc5, hm5, hd5⟩ := hret5.opened; have hl5 : d5.length ≤ 2650 := (by rw [hd5.out, List.length_append]; omega)))
      have hb5 := (hb2.drew.below hbel4 hz2).below hbel5 (by have := hbel4.size; simp at this; omega)
      have hbz5 : w2.heap.size ≤ w5.heap.size := by have := hbel4.size; have := hbel5.size; simp at *; omega
      have hbel25 : Below w2.heap.size w2 w5 := ((Below.refl w2.heap.size w2).drew.trans (hbel4.mono (by simp))).trans (hbel5.mono (by have := hbel4.size; simp at this; omega))
      clear hret4 hret5
      go_wp2_with fail
      go_region_held3 (fun w' => Blk w' wr.heap.size 77 (PW.mk gn pn pv pd).cells.toArray)
        (first | exact hb5.drew | exact hb5.drew.below hbel6 (by simp; omega) | exact (hb5.drew.below hbel6 (by simp; omega)).below hbel7 (by have := hbel6.size; simp at this; omega))
        (first | (go_at_call 72; refine (appendUint9_any _ A5 _ c5 d5 pv _ hown5.rd.drew (by omega) (fun q hq => by have := hq.1; simp; omega) hpv').mono ?_; intro e w6 hret6; obtain ⟨A6, c6, d6, rfl, hown6, hbel6, hc6, hm6, hd6⟩ := hret6.opened; have hl6 : d6.length ≤ 2700 := (by rw [hd6.out, List.length_append]; omega)) | (go_at_call 74; refine (appendBlock9_any _ A6 _ c6 d6 pd _ hown6.rd (by omega) (fun q hq => hq.1)).mono ?_; intro e w7 hret7; obtain ⟨A7, c7, d7, rfl, hown7, hbel7, hc7, hm7, hd7⟩ := hret7.opened))
      clear k0 k1 k2 k3 k4 k5 k6 k7 k8 k9 k10 ew1 ew2
      have hd7' : d7 = payW r (j + 1) := by rw [hd7.out, hd6.out, hd5.out, hd4.out, hnext.out]; simp [PW.enc, List.append_assoc]
      subst hd7'
      go_wp2
      go_roundw
      case rel =>
        have hb57 : Below w5.heap.size w5 w7 := ((Below.refl w5.heap.size w5).drew.trans (hbel6.mono (by simp))).trans (hbel7.mono (by have := hbel6.size; simp at this; omega))
        have hbw5 := (hbel.trans (hb3.mono hz)).trans (hbel25.mono (by omega))
        exact ⟨j + 1, A7, _, c7, by go_num, rfl, by omega, hown7.lower (by have := hbel6.size; simp at this; omega), ((hbx.below hb3 hbx.lt).below hbel25 (by have := hbx.lt; omega)).below hb57 (by have := hbx.lt; omega), hbw5.trans (hb57.mono (by omega))⟩
      case measure => simp [intOf]; omega
    · have hjn : j = nw := by omega
      subst hjn
      have hwj := hid (show payW r j = payW r r.writes.length by rw [← hw'.out])
      have b3 : wr.cell? ⟨w.heap.size, 3, none⟩ = some (.slice Am nm cm) := hbx.cell 3
      have hlen := hwl'.out j
      go_wp2_with fail
      refine (appendUint9_any _ A k c _ nm _ hown.rd (by omega) (fun q hq => hq.1) (by omega)).mono ?_
      intro e w4 hret4
      obtain ⟨A4, c4, d4, rfl, hown4, hbel4, hc4, hm4, hd4⟩ := hret4.opened
      have hd4' : d4 = payM r 0 := by rw [hd4.out, hwj.out]; simp [payM, hm'.out]
      subst hd4'
      clear hret4 hd4
      have hbx4 := hbx.below hbel4 hbx.lt
      have hbel5 := hbel.trans (hbel4.mono hbel.size)
      have hown5 := hown4.lower hbel.size
      clear hown hbel hbx hown4 hbel4 b3 b2
      go_wp2_with fail
      go_loopw [3, 6] (fun v i wr => ∃ (q : Nat) (A : Option Addr) (k c : Nat), i = .int .i64 (q : Int) ∧ v = .slice A k c ∧ q ≤ nm ∧ OwnB w.heap.size wr (.slice A k c) (payM r q) ∧ Blk wr w.heap.size 27 #[.int .u64 (r.gen : Int), .int .u64 (r.seq : Int), .slice Aw j cw, .slice Am nm cm, .slice An nn cn] ∧ Below w.heap.size w wr) (fun _ i _ => nm - (intOf i).toNat)
      case atStart => exact ⟨0, A4, _, c4, rfl, rfl, by omega, hown5, hbx4, hbel5⟩
      case round =>
        clear hown5 hbx4 hbel5 hwj hlen
        obtain ⟨q, A, k, c, rfl, rfl, hq, hown, hbx, hbel⟩ := hrel
        have b3 : wr.cell? ⟨w.heap.size, 3, none⟩ = some (.slice Am nm cm) := hbx.cell 3
        by_cases hqn : q < nm
        · obtain ⟨m, hp⟩ : ∃ m, r.moves[q]? = some m := ⟨r.moves[q]'(by rw [← hm'.out]; exact hqn), List.getElem?_eq_getElem _⟩
          obtain ⟨b, o, rfl, hFb, hc⟩ := (h.mv.keep (Kp.of_below hbel hF)).at_ hp
          have hpo := h.ok.moves m (List.mem_of_getElem? hp)
          have hpv := hV.m m (List.mem_of_getElem? hp)
          have hnext := hid (payM_succ hp)
          have hbn : 0 ≤ m.block ∧ m.block < 65536 := by
            unfold MV.vld placeB at hpv
            simp only [Bool.and_eq_true] at hpv
            have h2 := hpv.2
            split at h2
            · rw [decide_eq_true_eq] at h2; omega
            · rw [decide_eq_true_eq] at h2; omega
          clear hp
          have hc' := hid hc
          clear hc
          unfold MV.vld pieceB at hpv
          simp only [Bool.and_eq_true, decide_eq_true_eq] at hpv
          obtain ⟨⟨hg0, hg1, hp0, hp1⟩, _⟩ := hpv
          obtain ⟨hb0, hb1⟩ := hbn
          obtain ⟨mg, mp, md, mb⟩ := m
          obtain ⟨gn, rfl⟩ := Int.eq_ofNat_of_zero_le hg0
          obtain ⟨pn, rfl⟩ := Int.eq_ofNat_of_zero_le hp0
          obtain ⟨bn, rfl⟩ := Int.eq_ofNat_of_zero_le hb0
          simp only at hg1 hp1 hb1
          have hd0 := hpo.d.1
          have hd1 := hpo.d.2
          simp only at hd0 hd1
          clear hpo
          have hgn : gn < 18446744073709551616 := by omega
          have hpn : pn < 18446744073709551616 := by omega
          have hbn : bn < 18446744073709551616 := by omega
          have eg := enc_len10 hgn
          have ep := enc_len10 hpn
          have eb := enc_len10 hbn
          have ez := enc_len10 (zig_lt hd0 hd1)
          go_wp2_with (first | (refine wpList_ldAt rfl 82 _ rfl b (o + q * 4) _ _ rfl hc'.out Try.underlying82 rfl info_mv ?_) | (refine wpList_stBlk rfl 82 _ _ rfl wr.heap.size 82 #[.int .i64 0, .int .i64 0, .int .i64 0, .int .i64 0] (MV.mk gn pn md bn).cells.toArray (Blk.new _ _ _) rfl rfl info_mv rfl rfl ?_; intro w2 hb2 hg2))
          have hz := hbel.size
          have hb3 : Below wr.heap.size wr w2 := ((Below.refl _ _).alloc (Nat.le_refl _) _).grown hg2 (by simp) (by intro k hk; injection hk with hk; omega)
          have hown2 := hown.rd.keep (Kp.of_below hb3 (fun k hk => hk.1))
          have hz2 : wr.heap.size < w2.heap.size := hb2.lt
          have hlen := hml'.out q
          have k0 := fun (w' : World) (hh : Blk w' wr.heap.size 82 (MV.mk gn pn md bn).cells.toArray) => (show w'.cell? ⟨wr.heap.size, 0, none⟩ = some (.int .i64 (gn : Int)) from hh.cell 0)
          have k1 := fun (w' : World) (hh : Blk w' wr.heap.size 82 (MV.mk gn pn md bn).cells.toArray) => (show w'.cell? ⟨wr.heap.size, 1, none⟩ = some (.int .i64 (pn : Int)) from hh.cell 1)
          have k2 := fun (w' : World) (hh : Blk w' wr.heap.size 82 (MV.mk gn pn md bn).cells.toArray) => (show w'.cell? ⟨wr.heap.size, 2, none⟩ = some (.int .i64 md) from hh.cell 2)
          have k3 := fun (w' : World) (hh : Blk w' wr.heap.size 82 (MV.mk gn pn md bn).cells.toArray) => (show w'.cell? ⟨wr.heap.size, 3, none⟩ = some (.int .i64 (bn : Int)) from hh.cell 3)
          have ew1 : IntKind.u64.wrap (gn : Int) = (gn : Int) := by rw [IntKind.wrap_u64]; omega
          have ew2 : IntKind.u64.wrap (pn : Int) = (pn : Int) := by rw [IntKind.wrap_u64]; omega
          have ew3 : IntKind.u64.wrap (bn : Int) = (bn : Int) := by rw [IntKind.wrap_u64]; omega
          go_region_held3 (fun w' => Blk w' wr.heap.size 82 (MV.mk gn pn md bn).cells.toArray)
            (first | exact hb2.drew | exact hb2.drew.below hbel4 hz2 | exact (hb2.drew.below hbel4 hz2).below hbel5 (by have := hbel4.size; simp at this; omega))
            (first | (go_at_call 72; refine (appendUint9_any _ A k c _ gn _ hown2.drew (by omega) (fun q hq => by have := hq.1; simp; omega) hgn).mono ?_; intro e w4 hret4; obtain ⟨A4, c4, d4, rfl, hown4, hbel4, hc4, hm4, hd4⟩ := hret4.opened; have hl4 : d4.length ≤ 5200 := (by rw [hd4.out, List.length_append]; omega)) | (go_at_call 72; refine (appendUint9_any _ A4 _ c4 d4 pn _ hown4.rd (by omega) (fun q hq => hq.1) hpn).mono ?_; intro e w5 hret5; obtain ⟨A5, c5, d5, rfl, hown5, hbel5, hc5, hm5, hd5⟩ := hret5.opened; have hl5 : d5.length ≤ 5300 := (by rw [hd5.out, List.length_append]; omega)))
          have hb5 := (hb2.drew.below hbel4 hz2).below hbel5 (by have := hbel4.size; simp at this; omega)
          have hbz5 : w2.heap.size ≤ w5.heap.size := by have := hbel4.size; have := hbel5.size; simp at *; omega
          have hbel25 : Below w2.heap.size w2 w5 := ((Below.refl w2.heap.size w2).drew.trans (hbel4.mono (by simp))).trans (hbel5.mono (by have := hbel4.size; simp at this; omega))
          clear hret4 hret5
          go_wp2_with fail
          go_region_held3 (fun w' => Blk w' wr.heap.size 82 (MV.mk gn pn md bn).cells.toArray)
            (first | exact hb5.drew | exact hb5.drew.below hbel6 (by simp; omega) | exact (hb5.drew.below hbel6 (by simp; omega)).below hbel7 (by have := hbel6.size; simp at this; omega))
            (first | (go_at_call 75; refine (appendInt9_any _ A5 _ c5 d5 md _ hown5.rd.drew (by omega) (fun q hq => by have := hq.1; simp; omega) hd0 hd1).mono ?_; intro e w6 hret6; obtain ⟨A6, c6, d6, rfl, hown6, hbel6, hc6, hm6, hd6⟩ := hret6.opened; have hl6 : d6.length ≤ 5400 := (by rw [hd6.out, List.length_append]; omega)) | (go_at_call 72; refine (appendUint9_any _ A6 _ c6 d6 bn _ hown6.rd (by omega) (fun q hq => hq.1) hbn).mono ?_; intro e w7 hret7; obtain ⟨A7, c7, d7, rfl, hown7, hbel7, hc7, hm7, hd7⟩ := hret7.opened))
          clear k0 k1 k2 k3 ew1 ew2 ew3
          have hd7' : d7 = payM r (q + 1) := by rw [hd7.out, hd6.out, hd5.out, hd4.out, hnext.out]; simp [MV.enc, List.append_assoc]
          subst hd7'
          go_wp2
          go_roundw
          case rel =>
            have hb57 : Below w5.heap.size w5 w7 := ((Below.refl w5.heap.size w5).drew.trans (hbel6.mono (by simp))).trans (hbel7.mono (by have := hbel6.size; simp at this; omega))
            have hbw5 := (hbel.trans (hb3.mono hz)).trans (hbel25.mono (by omega))
            exact ⟨q + 1, A7, _, c7, by go_num, rfl, by omega, hown7.lower (by have := hbel6.size; simp at this; omega), ((hbx.below hb3 hbx.lt).below hbel25 (by have := hbx.lt; omega)).below hb57 (by have := hbx.lt; omega), hbw5.trans (hb57.mono (by omega))⟩
          case measure => simp [intOf]; omega
        · have hqn : q = nm := by omega
          subst hqn
          have hfin := hid (show payl r = payM r q ++ enc r.note.length ++ r.note by rw [payl_eq, ← hm'.out])
          have b4 : wr.cell? ⟨w.heap.size, 4, none⟩ = some (.slice An nn cn) := hbx.cell 4
          have hlen := hml'.out q
          have hnl := hV.nn
          go_wp2_with fail
          refine (appendBytes9_any _ A k c _ F An nn cn r.note wr hown.rd (h.nt.keep (Kp.of_below hbel hF)) (by omega) (fun q hq => hq.1) (fun k hk => by have := hF k hk; have := hbel.size; omega)).mono ?_
          rintro e w6 ⟨v6, rfl, hown6, hbel6⟩
          go_wp2
          go_ret
          exact ⟨v6, rfl, by rw [hfin.out]; exact hown6.lower hbel.size, hbel.trans (hbel6.mono hbel.size)⟩

end Go.Proofs.Ytbcmpfdhpefdbaa

namespace Go.Proofs.Ytbcmpfdhpefdbaa
open Go.RowKit

/-- the cells xs are slices of bytes that read as ss, in blocks of F -/
def Elems (w : World) (F : Nat → Prop) (xs : List Value) (ss : List (List UInt8)) : Prop :=
  xs.length = ss.length ∧ ∀ (j : Nat) (s : List UInt8), ss[j]? = some s → ∃ (A : Option Addr) (c : Nat), xs[j]? = some (Value.slice A s.length c) ∧ s.length ≤ c ∧ c ≤ maxLen ∧ RdB w F A s.length s
theorem Elems.keep {w w' : World} {F : Nat → Prop} {xs : List Value} {ss : List (List UInt8)} (h : Elems w F xs ss) (hk : Kp F w w') : Elems w' F xs ss :=
  ⟨h.1, fun j s hs => by obtain ⟨A, c, h1, h2, h3, h4⟩ := h.2 j s hs; exact ⟨A, c, h1, h2, h3, h4.keep hk⟩⟩
theorem RdB.more {w : World} {F G : Nat → Prop} {A : Option Addr} {n : Nat} {bs : List UInt8} (h : RdB w F A n bs) (hg : ∀ k, F k → G k) : RdB w G A n bs := ⟨h.1, h.2.more hg⟩
theorem Elems.more {w : World} {F G : Nat → Prop} {xs : List Value} {ss : List (List UInt8)} (h : Elems w F xs ss) (hg : ∀ k, F k → G k) : Elems w G xs ss :=
  ⟨h.1, fun j s hs => by obtain ⟨A, c, h1, h2, h3, h4⟩ := h.2 j s hs; exact ⟨A, c, h1, h2, h3, h4.more hg⟩⟩
theorem Elems.snoc {w : World} {F : Nat → Prop} {xs : List Value} {ss : List (List UInt8)} (h : Elems w F xs ss) {A : Option Addr} {n c : Nat} {s : List UInt8} (hr : RdB w F A n s) (hc : n ≤ c) (hm : c ≤ maxLen) : Elems w F (xs ++ [.slice A n c]) (ss ++ [s]) := by
  refine ⟨by simp [h.1], fun j t ht => ?_⟩
  rcases Nat.lt_trichotomy j ss.length with hj | hj | hj
  · rw [List.getElem?_append_left hj] at ht
    obtain ⟨A', c', h1, h2⟩ := h.2 j t ht
    exact ⟨A', c', by rw [List.getElem?_append_left (by rw [h.1]; exact hj)]; exact h1, h2⟩
  · subst hj
    rw [List.getElem?_append_right (Nat.le_refl _), Nat.sub_self] at ht
    simp at ht; subst ht
    exact ⟨A, c, by rw [← h.1, List.getElem?_append_right (Nat.le_refl _), Nat.sub_self, ← hr.1]; rfl, by rw [← hr.1]; exact hc, hm, by rw [← hr.1]; exact hr⟩
  · rw [List.getElem?_eq_none (by simp; omega)] at ht; cases ht

/-- '.slice A n c' reads as ss -/
def RdS (w : World) (F : Nat → Prop) (A : Option Addr) (n : Nat) (ss : List (List UInt8)) : Prop := n = ss.length ∧ ∃ xs, Rd w F 1 A n xs ∧ Elems w F xs ss
theorem RdS.keep {w w' : World} {F : Nat → Prop} {A : Option Addr} {n : Nat} {ss : List (List UInt8)} (h : RdS w F A n ss) (hk : Kp F w w') : RdS w' F A n ss := by
  obtain ⟨h1, xs, h2, h3⟩ := h; exact ⟨h1, xs, h2.keep hk, h3.keep hk⟩
theorem RdS.more {w : World} {F G : Nat → Prop} {A : Option Addr} {n : Nat} {ss : List (List UInt8)} (h : RdS w F A n ss) (hg : ∀ k, F k → G k) : RdS w G A n ss := by
  obtain ⟨h1, xs, h2, h3⟩ := h; exact ⟨h1, xs, h2.more hg, h3.more hg⟩
theorem RdS.at_ {w : World} {F : Nat → Prop} {A : Option Addr} {n : Nat} {ss : List (List UInt8)} (h : RdS w F A n ss) {j : Nat} {s : List UInt8} (hs : ss[j]? = some s) :
    ∃ b o A' c, A = some ⟨b, o, none⟩ ∧ F b ∧ w.cell? ⟨b, o + j, none⟩ = some (.slice A' (List.length s) c) ∧ s.length ≤ c ∧ c ≤ maxLen ∧ RdB w F A' s.length s := by
  obtain ⟨h1, xs, h2, h3⟩ := h
  have hj : j < ss.length := (List.getElem?_eq_some_iff.1 hs).1
  obtain ⟨b, o, rfl, hF, hc⟩ := h2.2 (by omega)
  obtain ⟨A', c, e1, e2, e3, e4⟩ := h3.2 j s hs
  exact ⟨b, o, A', c, rfl, hF, hc j _ e1, e2, e3, e4⟩
theorem RdS.cut {w : World} {F : Nat → Prop} {A : Option Addr} {k : Nat} {ss : List (List UInt8)} (h : RdS w F A k ss) {n c : Nat} (hn : n ≤ k) (hc : k ≤ c) : RdS w F (cutA A c n 1) (k - n) (ss.drop n) := by
  obtain ⟨rfl, xs, h2, h3⟩ := h
  have := h2.cut hn hc
  rw [Nat.mul_one] at this
  refine ⟨by simp, xs.drop n, this, by simp [h3.1], fun j s hs => ?_⟩
  rw [List.getElem?_drop] at hs ⊢
  exact h3.2 _ s hs
theorem RdS.take_ {w : World} {F : Nat → Prop} {A : Option Addr} {k : Nat} {ss : List (List UInt8)} (h : RdS w F A k ss) {n : Nat} (hn : n ≤ k) : RdS w F A n (ss.take n) := by
  obtain ⟨rfl, xs, h2, h3⟩ := h
  have := h2.take_ hn
  rw [Nat.mul_one] at this
  refine ⟨by simp; omega, xs.take n, this, by simp [h3.1], fun j s hs => ?_⟩
  rw [List.getElem?_take] at hs ⊢
  split at hs
  · rename_i hj; rw [if_pos hj]; exact h3.2 _ s hs
  · cases hs

theorem info_s8 : (Try.prog.info? 25).map (fun i => (i.zero, i.size, i.bytes)) = some (some (.slice none 0 0), 1, 24) := by kernel_rfl

/-- v is a row of byte strings of the call's own (blocks from base on) that holds ss; its strings lie in F or in blocks from base on, none in the row's own block -/
def OwnS (base : Nat) (F : Nat → Prop) (w : World) (v : Value) (ss : List (List UInt8)) : Prop :=
  ∃ xs, w.ownsRow base 25 1 v ss.length xs ∧ Elems w (fun k => k < w.heap.size ∧ (F k ∨ base ≤ k) ∧ v.ownBlock ≠ some k) xs ss

section
variable {w w' : World} {base : Nat} {F : Nat → Prop} {v : Value} {ss : List (List UInt8)}
theorem OwnS.nil_ : OwnS base F w (.slice none 0 0) [] := ⟨[], World.ownsRow_nil w base _ 1, rfl, fun j s hs => by simp at hs⟩
theorem OwnS.form (h : OwnS base F w v ss) : ∃ A c, v = .slice A ss.length c ∧ ss.length ≤ c ∧ c ≤ maxLen := by obtain ⟨xs, h, _⟩ := h; exact own_slice h
theorem OwnS.rd {A : Option Addr} {n c : Nat} (h : OwnS base F w (.slice A n c) ss) : RdS w (fun k => k < w.heap.size ∧ (F k ∨ base ≤ k)) A n ss := by
  obtain ⟨A', c', hv, _, _⟩ := h.form
  injection hv with h1 h2 h3
  subst h1; subst h2; subst h3
  obtain ⟨xs, h1, h2⟩ := h
  exact ⟨rfl, xs, (Rd.of_own h1).more (fun k hk => ⟨hk.1, .inr hk.2⟩), h2.more (fun k hk => ⟨hk.1, hk.2.1⟩)⟩
theorem OwnS.lt (h : OwnS base F w v ss) : ∀ k, v.ownBlock = some k → base ≤ k ∧ k < w.heap.size := by obtain ⟨xs, h, _⟩ := h; exact World.ownsRow.lt h
/-- nothing that it hangs on has turned -/
theorem OwnS.keep (h : OwnS base F w v ss) (hz : w.heap.size ≤ w'.heap.size) (hk : ∀ k, k < w.heap.size → (F k ∨ base ≤ k) → w'.heap[k]? = w.heap[k]?) : OwnS base F w' v ss := by
  obtain ⟨xs, h1, h2⟩ := h
  refine ⟨xs, ⟨h1.1, ?_⟩, (h2.keep (fun k hk' => hk k hk'.1 hk'.2.1)).more (fun k hk => ⟨by have := hk.1; omega, hk.2⟩)⟩
  rcases h1.2 with hn | ⟨g, cap, cur, rfl, hb, hgg, rest⟩
  · exact .inl hn
  · refine .inr ⟨g, cap, cur, rfl, hb, ?_, rest⟩
    rw [hk g (Array.getElem?_eq_some_iff.1 hgg).1 (.inr hb)]
    exact hgg
theorem OwnS.below (h : OwnS base F w v ss) (hb : Below w.heap.size w w') : OwnS base F w' v ss := h.keep hb.size (fun k hk _ => hb.block k hk)
theorem OwnS.lower {base' : Nat} (h : OwnS base' F w v ss) (hb : base ≤ base') : OwnS base F w v ss := by
  obtain ⟨xs, h1, h2⟩ := h
  refine ⟨xs, ⟨h1.1, ?_⟩, h2.more (fun k hk => ⟨hk.1, by rcases hk.2.1 with h | h; exact .inl h; exact .inr (by omega), hk.2.2⟩)⟩
  rcases h1.2 with hn | ⟨g, cap, cur, rfl, hb', r⟩
  · exact .inl hn
  · exact .inr ⟨g, cap, cur, rfl, Nat.le_trans hb hb', r⟩
end

theorem rd_one (w : World) (t : TypeId) (x : Value) : Rd (w.alloc (.cells #[x] t)) (fun k => k = w.heap.size) 1 (some ⟨w.heap.size, 0, none⟩) 1 [x] :=
  ⟨rfl, fun _ => ⟨_, _, rfl, rfl, fun j u hu => by rw [← addr_add]; exact cell_one_new w x t j u hu⟩⟩

/-- the run of append(out, s) at rows of byte strings -/
theorem apS_core {base : Nat} {F : Nat → Prop} {w w0 : World} {v v' : Value} {w' : World} {ss : List (List UInt8)} {xs : List Value} {A : Option Addr} {n c : Nat} {s : List UInt8}
    (hz : w0.heap.size ≤ w.heap.size) (hold : ∀ k, k < w0.heap.size → w.heap[k]? = w0.heap[k]?)
    (h1 : w0.ownsRow base 25 1 v ss.length xs) (h2 : Elems w0 (fun k => k < w0.heap.size ∧ (F k ∨ base ≤ k) ∧ v.ownBlock ≠ some k) xs ss)
    (hr : RdB w0 (fun k => k < w0.heap.size ∧ (F k ∨ base ≤ k) ∧ v.ownBlock ≠ some k) A n s) (hc : n ≤ c) (hm : c ≤ maxLen)
    (hown' : w'.ownsRow base 25 1 v' (ss.length + 1) (xs ++ [.slice A n c])) (hg : w.grownBy w' v.ownBlock) (hat : v'.ownBlock = v.ownBlock ∨ v'.ownBlock = some w.heap.size) :
    OwnS base F w' v' (ss ++ [s]) := by
  refine ⟨_, by rw [List.length_append]; exact hown', ?_⟩
  have hkp : Kp (fun k => k < w0.heap.size ∧ (F k ∨ base ≤ k) ∧ v.ownBlock ≠ some k) w0 w' := fun k hk => (hg.block k (by have := hk.1; omega) (fun e => hk.2.2 e.symm)).trans (hold k hk.1)
  refine ((h2.snoc hr hc hm).keep hkp).more (fun k hk => ⟨by have := hg.size; have := hk.1; omega, hk.2.1, ?_⟩)
  rcases hat with e | e
  · rw [e]; exact hk.2.2
  · rw [e]; intro e'; injection e' with e'; have := hk.1; omega

/-- append(out, s): the string has been laid into a block of its own first -/
theorem wpList_apS {ops : Array Oper} {rest : List Oper} {o : Oper} {a : Act} {w : World} {Q : Exit → Act → World → Prop} (hgd : o.guard = none) (s x : Operand)
    (ho : o.op = .call { callee := .builtin .append, args := #[s, x], argTypes := #[30, 30] })
    (base : Nat) (F : Nat → Prop) (v : Value) (ss : List (List UInt8)) (hs : a.eval s = v) (hown : OwnS base F w v ss) (A : Option Addr) (n c c' : Nat) (t : List UInt8)
    (hx : a.eval x = .slice (some ⟨w.heap.size, 0, none⟩) 1 c') (hr : RdB w (fun k => k < w.heap.size ∧ (F k ∨ base ≤ k) ∧ v.ownBlock ≠ some k) A n t) (hc : n ≤ c) (hm : c ≤ maxLen)
    (hlen : ss.length + 1 ≤ 1000000000) (hbase : base ≤ w.heap.size)
    (h : ∀ v' w', OwnS base F w' v' (ss ++ [t]) → w.grownBy w' v.ownBlock → (v'.ownBlock = v.ownBlock ∨ v'.ownBlock = some (w.heap.size + 1)) → wpList Try.prog ops Q rest (a.put o.dst v') w') :
    wpList Try.prog ops Q (o :: rest) a (w.alloc (.cells #[.slice A n c] 25)) := by
  obtain ⟨i0, hi, hz0, hz1, hz2⟩ := info_parts info_s8
  obtain ⟨xs, h1, h2⟩ := hown
  refine wpList_append_any (w.alloc (.cells #[.slice A n c] 25)) hgd s x 30 ho base 25 i0 _ 1 24 Try.underlying30 hi hz0 hz1 hz2 rfl (by decide) v ss.length xs hs (h1.alloc _) _ _ 1 c' [.slice A n c] hx (rd_one w _ _) (by simp [Value.oneCell'])
    (by simp only [maxLen]; omega) (by omega) (by simp; omega) ?_
  intro v' w' e1 e2 e3
  exact h v' w' (apS_core (by simp) (fun k hk => Below.heap_alloc w _ k hk) h1 h2 hr hc hm e1 e2 e3) ((World.grownBy_alloc w _ _).trans e2) (by simpa using e3)

/-- the same in a region that draws its order, in whatever world that has the string's block -/
theorem step_apS {ops : Array Oper} {o : Oper} {a : Act} {w w0 : World} {K : Act → World → Prop} {Q : Exit → Act → World → Prop} {E : Prop} (hgd : o.guard = none) (s x : Operand)
    (ho : o.op = .call { callee := .builtin .append, args := #[s, x], argTypes := #[30, 30] })
    (base : Nat) (F : Nat → Prop) (v : Value) (ss : List (List UInt8)) (hs : a.eval s = v) (hown : OwnS base F w0 v ss) (A : Option Addr) (n c c' g : Nat) (t : List UInt8)
    (hx : a.eval x = .slice (some ⟨g, 0, none⟩) 1 c') (hg : Blk w g 25 #[.slice A n c]) (hz : w0.heap.size ≤ w.heap.size) (hold : ∀ k, k < w0.heap.size → w.heap[k]? = w0.heap[k]?)
    (hr : RdB w0 (fun k => k < w0.heap.size ∧ (F k ∨ base ≤ k) ∧ v.ownBlock ≠ some k) A n t) (hc : n ≤ c) (hm : c ≤ maxLen)
    (hlen : ss.length + 1 ≤ 1000000000) (hbase : base ≤ w.heap.size)
    (h : ∀ v' w', OwnS base F w' v' (ss ++ [t]) → w.grownBy w' v.ownBlock → (v'.ownBlock = v.ownBlock ∨ v'.ownBlock = some w.heap.size) → K (a.put o.dst v') w') :
    if Region.wanted o (yielded ops a.tmps) = true then Oper.wp Try.prog o a w K Q else E := by
  obtain ⟨i0, hi, hz0, hz1, hz2⟩ := info_parts info_s8
  obtain ⟨xs, h1, h2⟩ := hown
  have h1' : w.ownsRow base 25 1 v ss.length xs := by
    refine ⟨h1.1, ?_⟩
    rcases h1.2 with hn | ⟨g, cap, cur, rfl, hb, hgg, rest⟩
    · exact .inl hn
    · refine .inr ⟨g, cap, cur, rfl, hb, ?_, rest⟩
      rw [hold g (Array.getElem?_eq_some_iff.1 hgg).1]
      exact hgg
  refine step_append_any w hgd s x 30 ho base 25 i0 _ 1 24 Try.underlying30 hi hz0 hz1 hz2 rfl (by decide) v ss.length xs hs h1' (fun k => k = g) _ 1 c' [.slice A n c] hx
    ⟨rfl, fun _ => ⟨_, _, rfl, rfl, fun j u hu => by rw [Nat.zero_add, hg.cell]; simpa using hu⟩⟩ (by simp [Value.oneCell']) (by simp only [maxLen]; omega) (by omega) hbase ?_
  intro v' w' e1 e2 e3
  exact h v' w' (apS_core hz hold h1 h2 hr hc hm e1 e2 e3) e2 e3

end Go.Proofs.Ytbcmpfdhpefdbaa
