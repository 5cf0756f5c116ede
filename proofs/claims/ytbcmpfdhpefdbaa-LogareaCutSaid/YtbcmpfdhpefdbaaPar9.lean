/- The contract of the reference's payload (which reads one). -/
import Derived.Test.YtbcmpfdhpefdbaaKO
import Derived.Test.YtbcmpfdhpefdbaaKM
import Derived.Test.YtbcmpfdhpefdbaaParse
import Derived.Test.YtbcmpfdhpefdbaaKC
set_option linter.unusedVariables false
set_option linter.unusedSimpArgs false
namespace Go.Proofs.Ytbcmpfdhpefdbaa
open Go.RowKit
attribute [local irreducible] Go.Calls

theorem rUint_dec {st : RS} (h : 0 < rLeft st) : rLeft (rUint st).2 < rLeft st := by
  cases st with
  | none => simp [rLeft] at h
  | some bs =>
    unfold rUint
    simp only
    cases hd : decU 0 0 bs with
    | none => simpa [rLeft] using h
    | some y => exact decU_len (n := y.1) (rest := y.2) hd
theorem rdPW9_dec {st : RS} (h : 0 < rLeft st) : rLeft (rdPW9 st).2 < rLeft st := Nat.lt_of_le_of_lt (Nat.le_trans rBlock_left (Nat.le_trans rUint_left rUint_left)) (rUint_dec h)
theorem rdMV9_dec {st : RS} (h : 0 < rLeft st) : rLeft (rdMV9 st).2 < rLeft st := Nat.lt_of_le_of_lt (Nat.le_trans rUint_left (Nat.le_trans rInt_left rUint_left)) (rUint_dec h)

theorem wrap_I64 (x : Int) : I64 (IntKind.i64.wrap x) := by unfold I64; rw [IntKind.wrap_i64]; omega
theorem rdPW9_ok (st : RS) : (rdPW9 st).1.Ok := ⟨wrap_I64 _, wrap_I64 _, rUint_bd _⟩
theorem rdMV9_ok (st : RS) : (rdMV9 st).1.Ok := ⟨wrap_I64 _, wrap_I64 _, rInt_bd _, wrap_I64 _⟩
theorem parse9R_ok (bs : List UInt8) : (parse9R bs).Ok :=
  ⟨rUint_bd _, rUint_bd _, fun p hp => by obtain ⟨s, rfl⟩ := rdN_mem _ p hp; exact rdPW9_ok s, fun p hp => by obtain ⟨s, rfl⟩ := rdN_mem _ p hp; exact rdMV9_ok s⟩
theorem PFin.post9 {TR : TypeId} {w0 w : World} {g p q m : Nat} {st : RS} {Aw Am An : Option Addr} {nw cw nm cm nn cn : Nat} {cq : Array Value} {bs : List UInt8} (h : PFin TR w0 g p q m st (parse9R bs) Aw nw cw Am nm cm An nn cn cq w) :
    ParsePost w0 bs (.returned (.tuple #[.agg (recCells (parse9R bs) Aw nw cw Am nm cm An nn cn), .bool (parseOk bs)])) w :=
  ⟨_, _, Aw, nw, cw, Am, nm, cm, An, nn, cn, rfl, fun e => by
    have h1 := h.rec_.more' (G := fun k => k < w.heap.size ∧ w0.heap.size ≤ k) (fun k hk => ⟨by have := h.hm; omega, by have := h.hq; omega⟩)
    rw [parse9_rec e] at h1 ⊢
    exact ⟨rfl, rfl, h1⟩, h.bel⟩
theorem at_wl {P : Program} {ops : Array Oper} {Q : Exit → Act → World → Prop} {o : Oper} {rest : List Oper} {a : Act} {w : World} (h : wpList P ops Q (o :: rest) a w) : wpList P ops Q (o :: rest) a w := h
theorem Mk.go {p : Prop} (h : p) : Mk p := h

set_option maxRecDepth 100000 in
set_option maxHeartbeats 800000 in
theorem parse9_any (F : Nat → Prop) (A : Option Addr) (n c : Nat) (bs : List UInt8) (w : World) (h : RdB w F A n bs) (hnc : n ≤ c) (hl : bs.length ≤ 1000000) (hF : ∀ k, F k → k < w.heap.size) :
    Calls Try.prog 71 #[.slice A n c] w (ParsePost w bs) := by
  have hbox : Blk (w.alloc (.cells #[.int .u64 0, .int .u64 0, .slice none 0 0, .slice none 0 0, .slice none 0 0] 27)) w.heap.size 27 #[.int .u64 0, .int .u64 0, .slice none 0 0, .slice none 0 0, .slice none 0 0] := Blk.new _ _ _
  have hbel0 : Below w.heap.size w (w.alloc (.cells #[.int .u64 0, .int .u64 0, .slice none 0 0, .slice none 0 0, .slice none 0 0] 27)) := (Below.refl _ _).alloc (Nat.le_refl _) _
  go_enter Try.func71, Try.ntmps71
  go_wp2_with fail
  refine (new9_any F _ _ _ _ _ (h.keep (Kp.of_below hbel0 hF)) (by omega) (fun k hk => by have := hF k hk; simp; omega)).mono ?_
  rintro e w1 ⟨g, rfl, hrdr, hbel1, hgl, hgs⟩
  have hbx1 := hbox.below hbel1 (by simp)
  have hbelw1 := hbel0.trans (hbel1.mono (by simp))
  have hP0 : PIn 110 w.heap.size (w.heap.size + 1) g w1.heap.size w.heap.size w (some bs) #[.int .u64 0, .int .u64 0, .slice none 0 0, .slice none 0 0, .slice none 0 0] (w1.alloc (.cells #[.int .u64 0, .int .u64 0, .slice none 0 0, .slice none 0 0, .slice none 0 0] 27)) :=
    { rdr := (hrdr.kept' (Below.heap_alloc _ _ _ hgs) (fun k hk => Below.heap_alloc _ _ _ (by omega))).moreF (fun k hk => ⟨by have := hk.1; simp at this; omega, hk.2⟩)
      box := Blk.new _ _ _
      res := hbx1.alloc _
      bel := hbelw1.alloc hbelw1.size _
      hb := Nat.le_refl _
      hq := by omega
      hl := by simp at hgl; omega
      hp := hgs }
  clear hbox hbel0 hrdr hbel1 hbx1 hbelw1
  have hg0 : w.heap.size ≤ g := by simp at hgl; omega
  go_wp2_with fail
  refine (uint9_any _ g (some bs) _ hP0.rdr (by simp only [rLeft]; omega) hP0.hF).mono ?_
  rintro e w2 ⟨rfl, hr2, hg2⟩
  have hP1 := hP0.step hr2 hg2
  have x0 : w2.cell? ⟨w1.heap.size, 0, none⟩ = some (.int .u64 0) := hP1.box.cell 0
  have f0 := hP1.box.frozen 0
  go_wp2_with fail
  have hP2 : PIn 110 w.heap.size (w.heap.size + 1) g w1.heap.size w.heap.size w (pGen bs).2 #[.int .u64 ((pGen bs).1 : Nat), .int .u64 0, .slice none 0 0, .slice none 0 0, .slice none 0 0] _ := hP1.store 0 (.int .u64 ((pGen bs).1 : Nat))
  have hL0 : rLeft (pGen bs).2 ≤ 1000000 := Nat.le_trans rUint_left hl
  clear hP0 hP1 x0 f0 hr2 hg2
  refine (uint9_any _ g _ _ hP2.rdr (by omega) hP2.hF).mono ?_
  rintro e w3 ⟨rfl, hr3, hg3⟩
  have hP3 := hP2.step hr3 hg3
  have x0 : w3.cell? ⟨w1.heap.size, 1, none⟩ = some (.int .u64 0) := hP3.box.cell 1
  have f0 := hP3.box.frozen 1
  go_wp2_with fail
  have hP4 : PIn 110 w.heap.size (w.heap.size + 1) g w1.heap.size w.heap.size w (pSeq bs).2 #[.int .u64 ((pGen bs).1 : Nat), .int .u64 ((pSeq bs).1 : Nat), .slice none 0 0, .slice none 0 0, .slice none 0 0] _ := hP3.store 1 (.int .u64 ((pSeq bs).1 : Nat))
  have hL1 : rLeft (pSeq bs).2 ≤ 1000000 := Nat.le_trans rUint_left hL0
  clear hP2 hP3 x0 f0 hr3 hg3
  refine (uint9_any _ g _ _ hP4.rdr (by omega) hP4.hF).mono ?_
  rintro e w4 ⟨rfl, hr4, hg4⟩
  have hP5 := hP4.step hr4 hg4
  clear hP4 hr4 hg4
  have hL2 : rLeft (qNW bs).2 ≤ 1000000 := Nat.le_trans rUint_left hL1
  obtain ⟨nW, hnW⟩ : ∃ nW, nW = (rUint (pSeq bs).2).1 := ⟨_, rfl⟩
  have hnWb : nW < 18446744073709551616 := by rw [hnW]; exact rUint_bd _
  rw [← hnW]
  have hnW' := hid hnW
  clear hnW
  go_wp2_with fail
  have hlp0 := PLp.start hP5 77 11
  clear hP5
  go_loopw [8] (fun i wr => ∃ (j : Nat) (v : Value), i = .int .u64 (j : Int) ∧ j ≤ nW ∧ j + rLeft (rdN rdPW9 j (qNW bs).2).2 ≤ 1000000 ∧ PLp 110 w.heap.size (w.heap.size + 1) g w1.heap.size w.heap.size w4.heap.size w w4 (rdN rdPW9 j (qNW bs).2).2 #[.int .u64 ((pGen bs).1 : Nat), .int .u64 ((pSeq bs).1 : Nat), v, .slice none 0 0, .slice none 0 0] 77 11 v (rdN rdPW9 j (qNW bs).2).1.length ((rdN rdPW9 j (qNW bs).2).1.flatMap PW.cells) wr) (fun i _ => 1000000 - (intOf i).toNat)
  case atStart => exact ⟨0, _, rfl, by omega, by simpa [rdN] using hL2, hlp0⟩
  case round =>
    clear hlp0
    obtain ⟨j, v, rfl, hj, hjl, hP⟩ := hrel
    obtain ⟨st, hst⟩ : ∃ st, st = (rdN rdPW9 j (qNW bs).2).2 := ⟨_, rfl⟩
    obtain ⟨ws, hws⟩ : ∃ ws, ws = (rdN rdPW9 j (qNW bs).2).1 := ⟨_, rfl⟩
    rw [← hst] at hP hjl
    rw [← hws] at hP
    have hwl : ws.length = j := by rw [hws, rdN_len]
    have hst' := hid hst
    have hws' := hid hws
    clear hst hws
    have hlst' : rLeft st ≤ 1000000 := by omega
    have hjb : j ≤ 1000000 := by omega
    by_cases hjn : j < nW
    · by_cases hlf : 0 < rLeft st
      · have hdec := rdPW9_dec hlf
        have ewj : IntKind.u64.wrap ((j : Int) + 1) = (j : Int) + 1 := by rw [IntKind.wrap_u64]; omega
        go_wp2_with fail
        refine (left9_any _ g st _ hP.pin.rdr).mono ?_
        rintro e _ ⟨rfl, rfl⟩
        go_wp2_with fail
        refine (uint9_any _ g st _ hP.pin.rdr (by omega) hP.pin.hF).mono ?_
        rintro e w5 ⟨rfl, hr5, hg5⟩
        obtain ⟨n0, hn0⟩ : ∃ n0, n0 = (rUint st).1 := ⟨_, rfl⟩
        rw [← hn0]
        have hn0' := hid hn0
        clear hn0
        have hP5 := hP.step hr5 hg5
        clear hP hr5 hg5
        have l5 : rLeft (rUint st).2 ≤ 1000000 := Nat.le_trans rUint_left hlst'
        go_wp2_with fail
        refine (uint9_any _ g _ _ hP5.pin.rdr (by omega) hP5.pin.hF).mono ?_
        rintro e w6 ⟨rfl, hr6, hg6⟩
        obtain ⟨n1, hn1⟩ : ∃ n1, n1 = (rUint (rUint st).2).1 := ⟨_, rfl⟩
        rw [← hn1]
        have hn1' := hid hn1
        clear hn1
        have hP6 := hP5.step hr6 hg6
        clear hP5 hr6 hg6
        have l6 : rLeft (rUint (rUint st).2).2 ≤ 1000000 := Nat.le_trans rUint_left l5
        go_wp2_with fail
        refine (uint9_any _ g _ _ hP6.pin.rdr (by omega) hP6.pin.hF).mono ?_
        rintro e w7 ⟨rfl, hr7, hg7⟩
        obtain ⟨n2, hn2⟩ : ∃ n2, n2 = (rUint (rUint (rUint st).2).2).1 := ⟨_, rfl⟩
        rw [← hn2]
        have hn2' := hid hn2
        clear hn2
        have hP7 := hP6.step hr7 hg7
        clear hP6 hr7 hg7
        have l7 : rLeft (rUint (rUint (rUint st).2).2).2 ≤ 1000000 := Nat.le_trans rUint_left l6
        go_wp2_with fail
        refine (block9_any _ g _ _ hP7.pin.rdr (by omega) hP7.pin.hF).mono ?_
        rintro e w8 ⟨rfl, hr8, hg8⟩
        have hP8 := hP7.step hr8 hg8
        clear hP7 hr8 hg8
        obtain ⟨b0, b1, b2, b3, b4, b5, b6, b7, hx8⟩ : ∃ b0 b1 b2 b3 b4 b5 b6 b7, B8.mk b0 b1 b2 b3 b4 b5 b6 b7 = (rBlock (rUint (rUint (rUint st).2).2).2).1 := ⟨_, _, _, _, _, _, _, _, rfl⟩
        rw [← hx8]
        have hx8' := hid hx8
        clear hx8
        have hR8 := PRow.start hP8 #[.int .u8 0, .int .u8 0, .int .u8 0, .int .u8 0, .int .u8 0, .int .u8 0, .int .u8 0, .int .u8 0] 75
        have hblk8 := hid hR8.blk
        go_wp2_with (refine wpList_stBlk rfl 75 _ _ rfl w8.heap.size 75 _ (B8.mk b0 b1 b2 b3 b4 b5 b6 b7).cells hblk8.out rfl rfl info_b8 rfl rfl ?_; intro w9 hb9 hg9; refine mk_stop ?_)
        have hR9 := hR8.turn hb9 hg9
        clear hR8 hb9 hg9 hblk8 hP8
        have hblk9 : Blk w9 w8.heap.size 75 #[.int .u8 (b0.toNat : Int), .int .u8 (b1.toNat : Int), .int .u8 (b2.toNat : Int), .int .u8 (b3.toNat : Int), .int .u8 (b4.toNat : Int), .int .u8 (b5.toNat : Int), .int .u8 (b6.toNat : Int), .int .u8 (b7.toNat : Int)] := hR9.blk
        have hblk9 := hid hblk9
        have c2 : w9.cell? ⟨w1.heap.size, 2, none⟩ = some v := hR9.lp.pin.box.cell 2
        have f2 := hR9.lp.pin.box.frozen 2
        have hpz := hR9.lp.pin.gs
        obtain ⟨m0, hm0⟩ : ∃ m0, IntKind.i64.wrap (n0 : Int) = m0 := ⟨_, rfl⟩
        obtain ⟨m1, hm1⟩ : ∃ m1, IntKind.i64.wrap (n1 : Int) = m1 := ⟨_, rfl⟩
        unfold Mk
        go_wp2_with (first | ((with_reducible refine at_wl ?_); (refine wpList_ldBlk rfl 75 _ rfl w8.heap.size 75 #[.int .u8 (b0.toNat : Int), .int .u8 (b1.toNat : Int), .int .u8 (b2.toNat : Int), .int .u8 (b3.toNat : Int), .int .u8 (b4.toNat : Int), .int .u8 (b5.toNat : Int), .int .u8 (b6.toNat : Int), .int .u8 (b7.toNat : Int)] hblk9.out _ rfl Try.underlying75 rfl info_b8 ?_)) | (at_builtin; refine mk_stop ?_))
        refine wpList_apW rfl _ _ rfl w4.heap.size v ws rfl hR9.lp.own (⟨m0, m1, n2, ⟨b0, b1, b2, b3, b4, b5, b6, b7⟩⟩ : PW) _ rfl (by omega) hR9.lp.hbs ?_
        intro v' w13 hown13 hg13 hat13
        obtain ⟨A13, c13, rfl, hc13, hm13⟩ := own_slice hown13
        have hL13 := hR9.lp.append hown13 hg13
        have c2 : w13.cell? ⟨w1.heap.size, 2, none⟩ = some v := hL13.pin.box.cell 2
        have f2 := hL13.pin.box.frozen 2
        have ep : (⟨m0, m1, n2, ⟨b0, b1, b2, b3, b4, b5, b6, b7⟩⟩ : PW) = (rdPW9 st).1 := by
          unfold rdPW9
          rw [← hn0'.out, ← hn1'.out, ← hn2'.out, ← hx8'.out, hm0, hm1]
        have ep' := hid ep
        clear ep hm0 hm1
        go_wp2_with fail
        go_roundw
        case rel =>
          have hL14 := hL13.store 2 (.slice A13 (ws ++ [(⟨m0, m1, n2, ⟨b0, b1, b2, b3, b4, b5, b6, b7⟩⟩ : PW)]).length c13)
          have e1 : (rdN rdPW9 (j + 1) (qNW bs).2).1 = ws ++ [(⟨m0, m1, n2, ⟨b0, b1, b2, b3, b4, b5, b6, b7⟩⟩ : PW)] := by
            show (rdN rdPW9 j (qNW bs).2).1 ++ [(rdPW9 (rdN rdPW9 j (qNW bs).2).2).1] = _
            rw [← hws'.out, ← hst'.out, ep'.out]
          have e2 : (rdN rdPW9 (j + 1) (qNW bs).2).2 = (rBlock (rUint (rUint (rUint st).2).2).2).2 := by
            show (rdPW9 (rdN rdPW9 j (qNW bs).2).2).2 = _
            rw [← hst'.out]
            rfl
          have e3 : (ws ++ [(⟨m0, m1, n2, ⟨b0, b1, b2, b3, b4, b5, b6, b7⟩⟩ : PW)]).length = j + 1 := by simp [hwl]
          have e4 : rLeft (rBlock (rUint (rUint (rUint st).2).2).2).2 < rLeft st := hdec
          refine ⟨j + 1, .slice A13 (j + 1) c13, by go_num, by omega, by rw [e2]; omega, ?_⟩
          rw [e3] at hL14
          rw [e1, e2, e3]
          exact hL14
        case measure => simp [intOf]; omega
      · have hl0 : rLeft st = 0 := by omega
        have hbad := hid (parse9_stopW (bs := bs) (j := j) (by rw [qNW, ← hnW'.out]; exact hjn) (by rw [← hst'.out]; exact hl0))
        obtain ⟨Av, cv, rfl, hcv, hmv⟩ := own_slice hP.own
        rw [hwl] at hP hcv
        have c2 : wr.cell? ⟨w1.heap.size, 2, none⟩ = some (.slice Av j cv) := hP.pin.box.cell 2
        have hjne : ¬ (j : Int) = (nW : Int) := by omega
        have hjne2 : ¬ j = nW := by omega
        have ewj : IntKind.u64.wrap (j : Int) = (j : Int) := by rw [IntKind.wrap_u64]; omega
        have hbx := hid hP.pin.box
        have hrs := hid hP.pin.res
        go_wp2_with fail
        refine (left9_any _ g st _ hP.pin.rdr).mono ?_
        rintro e _ ⟨rfl, rfl⟩
        go_wp2_with (first | ((with_reducible refine at_wl ?_); (refine wpList_ldBlk rfl 27 _ rfl w1.heap.size 27 _ hbx.out _ rfl Try.underlying27 rfl info_rec ?_)) | ((with_reducible refine at_wl ?_); (refine wpList_stBlk rfl 27 _ _ rfl w.heap.size 27 _ #[.int .u64 ((pGen bs).1 : Nat), .int .u64 ((pSeq bs).1 : Nat), .slice Av j cv, .slice none 0 0, .slice none 0 0] hrs.out rfl rfl info_rec rfl rfl ?_; intro w10 hb10 hg10)))
        refine bodyPost_ret (results_ct (cs := #[.int .u64 ((pGen bs).1 : Nat), .int .u64 ((pSeq bs).1 : Nat), .slice Av j cv, .slice none 0 0, .slice none 0 0]) rfl rfl hb10 Try.underlying27 rfl info_rec) rfl ?_
        refine ⟨_, _, _, _, _, _, _, _, _, _, _, by rw [hbad.out]; rfl, fun e => ?_, hP.pin.bel.grown hg10 (by have := hP.pin.bel.size; omega) (by intro k hk; injection hk with hk; omega)⟩
        rw [hbad.out] at e
        cases e
    · have hjn' : j = nW := by omega
      subst hjn'
      have eW : rdN rdPW9 j (qNW bs).2 = qWs bs := by
        have e : j = (qNW bs).1 := hnW'.out
        rw [e]
        rfl
      have est : st = (qWs bs).2 := by rw [hst'.out, eW]
      have ews : ws = (qWs bs).1 := by rw [hws'.out, eW]
      obtain ⟨Aw, cw, rfl, hcw, hmw⟩ := own_slice hP.own
      have hP' := hP
      clear hP
      rw [hwl] at hP' hcw
      have hP := hP'
      clear hP'
      have c2 : wr.cell? ⟨w1.heap.size, 2, none⟩ = some (.slice Aw j cw) := hP.pin.box.cell 2
      have hz4 := hP.hpb
      have ewj : IntKind.u64.wrap (j : Int) = (j : Int) := by rw [IntKind.wrap_u64]; omega
      have est' := hid est
      have ews' := hid ews
      clear est ews hj hjn hjl eW hL0 hL1
      go_wp2_with fail
      refine (uint9_any _ g st _ hP.pin.rdr (by omega) hP.pin.hF).mono ?_
      rintro e w5 ⟨rfl, hr5, hg5⟩
      have hP5 := hP.step hr5 hg5
      rw [est'.out] at hP5
      clear hP hr5 hg5 c2
      have hL3 : rLeft (qWs bs).2 ≤ 1000000 := by rw [← est'.out]; exact hlst'
      have hL4 : rLeft (qNM bs).2 ≤ 1000000 := Nat.le_trans rUint_left hL3
      rw [est'.out]
      obtain ⟨nM, hnM⟩ : ∃ nM, nM = (rUint (qWs bs).2).1 := ⟨_, rfl⟩
      have hnMb : nM < 18446744073709551616 := by rw [hnM]; exact rUint_bd _
      rw [← hnM]
      have hnM' := hid hnM
      clear hnM
      have hownW := hP5.own
      have hz5 := hP5.hbs
      go_wp2_with fail
      have hlp0 := PLp.start hP5.pin 82 4
      clear hP5
      go_loopw [17] (fun i wr => ∃ (k : Nat) (v2 : Value), i = .int .u64 (k : Int) ∧ k ≤ nM ∧ k + rLeft (rdN rdMV9 k (qNM bs).2).2 ≤ 1000000 ∧ PLp 110 w.heap.size (w.heap.size + 1) g w1.heap.size w.heap.size w5.heap.size w w5 (rdN rdMV9 k (qNM bs).2).2 #[.int .u64 ((pGen bs).1 : Nat), .int .u64 ((pSeq bs).1 : Nat), .slice Aw j cw, v2, .slice none 0 0] 82 4 v2 (rdN rdMV9 k (qNM bs).2).1.length ((rdN rdMV9 k (qNM bs).2).1.flatMap MV.cells) wr) (fun i _ => 1000000 - (intOf i).toNat)
      case atStart => exact ⟨0, _, rfl, by omega, by simpa [rdN] using hL4, hlp0⟩
      case round =>
        clear hlp0
        clear hst' hws' est' hlst'
        obtain ⟨k, v2, rfl, hk, hkl, hP⟩ := hrel
        obtain ⟨st2, hst⟩ : ∃ st2, st2 = (rdN rdMV9 k (qNM bs).2).2 := ⟨_, rfl⟩
        obtain ⟨ms, hms⟩ : ∃ ms, ms = (rdN rdMV9 k (qNM bs).2).1 := ⟨_, rfl⟩
        rw [← hst] at hP hkl
        rw [← hms] at hP
        have hml : ms.length = k := by rw [hms, rdN_len]
        have hst' := hid hst
        have hms' := hid hms
        clear hst hms
        have hlst' : rLeft st2 ≤ 1000000 := by omega
        have hkb : k ≤ 1000000 := by omega
        by_cases hkn : k < nM
        · by_cases hlf : 0 < rLeft st2
          · have hdec := rdMV9_dec hlf
            have ewk : IntKind.u64.wrap ((k : Int) + 1) = (k : Int) + 1 := by rw [IntKind.wrap_u64]; omega
            go_wp2_with fail
            refine (left9_any _ g st2 _ hP.pin.rdr).mono ?_
            rintro e _ ⟨rfl, rfl⟩
            go_wp2_with fail
            refine (uint9_any _ g st2 _ hP.pin.rdr (by omega) hP.pin.hF).mono ?_
            rintro e w6 ⟨rfl, hr6, hg6⟩
            obtain ⟨n0, hn0⟩ : ∃ n0, n0 = (rUint st2).1 := ⟨_, rfl⟩
            rw [← hn0]
            have hn0' := hid hn0
            clear hn0
            have hP6 := hP.step hr6 hg6
            clear hP hr6 hg6
            have l6 : rLeft (rUint st2).2 ≤ 1000000 := Nat.le_trans rUint_left hlst'
            go_wp2_with fail
            refine (uint9_any _ g _ _ hP6.pin.rdr (by omega) hP6.pin.hF).mono ?_
            rintro e w7 ⟨rfl, hr7, hg7⟩
            obtain ⟨n1, hn1⟩ : ∃ n1, n1 = (rUint (rUint st2).2).1 := ⟨_, rfl⟩
            rw [← hn1]
            have hn1' := hid hn1
            clear hn1
            have hP7 := hP6.step hr7 hg7
            clear hP6 hr7 hg7
            have l7 : rLeft (rUint (rUint st2).2).2 ≤ 1000000 := Nat.le_trans rUint_left l6
            go_wp2_with fail
            refine (int9_any _ g _ _ hP7.pin.rdr (by omega) hP7.pin.hF).mono ?_
            rintro e w8 ⟨rfl, hr8, hg8⟩
            obtain ⟨d2, hd2⟩ : ∃ d2, d2 = (rInt (rUint (rUint st2).2).2).1 := ⟨_, rfl⟩
            rw [← hd2]
            have hd2' := hid hd2
            clear hd2
            have hP8 := hP7.step hr8 hg8
            clear hP7 hr8 hg8
            have l8 : rLeft (rInt (rUint (rUint st2).2).2).2 ≤ 1000000 := Nat.le_trans rInt_left l7
            go_wp2_with fail
            refine (uint9_any _ g _ _ hP8.pin.rdr (by omega) hP8.pin.hF).mono ?_
            rintro e w9 ⟨rfl, hr9, hg9⟩
            obtain ⟨n3, hn3⟩ : ∃ n3, n3 = (rUint (rInt (rUint (rUint st2).2).2).2).1 := ⟨_, rfl⟩
            rw [← hn3]
            have hn3' := hid hn3
            clear hn3
            have hP9 := hP8.step hr9 hg9
            clear hP8 hr9 hg9
            obtain ⟨m0, hm0⟩ : ∃ m0, IntKind.i64.wrap (n0 : Int) = m0 := ⟨_, rfl⟩
            obtain ⟨m1, hm1⟩ : ∃ m1, IntKind.i64.wrap (n1 : Int) = m1 := ⟨_, rfl⟩
            obtain ⟨m3, hm3⟩ : ∃ m3, IntKind.i64.wrap (n3 : Int) = m3 := ⟨_, rfl⟩
            have c2 : w9.cell? ⟨w1.heap.size, 3, none⟩ = some v2 := hP9.pin.box.cell 3
            have f2 := hP9.pin.box.frozen 3
            have hpz := hP9.pin.gs
            go_wp2_with (at_builtin; refine mk_stop ?_)
            refine wpList_apM rfl _ _ rfl w5.heap.size v2 ms rfl hP9.own (⟨m0, m1, d2, m3⟩ : MV) _ rfl (by omega) hP9.hbs ?_
            intro v' w14 hown14 hg14 hat14
            obtain ⟨A14, c14, rfl, hc14, hm14⟩ := own_slice hown14
            have hL14 := hP9.append hown14 hg14
            have c2 : w14.cell? ⟨w1.heap.size, 3, none⟩ = some v2 := hL14.pin.box.cell 3
            have f2 := hL14.pin.box.frozen 3
            have ep : (⟨m0, m1, d2, m3⟩ : MV) = (rdMV9 st2).1 := by
              unfold rdMV9
              rw [← hn0'.out, ← hn1'.out, ← hd2'.out, ← hn3'.out, hm0, hm1, hm3]
            have ep' := hid ep
            clear ep hm0 hm1 hm3
            go_wp2_with fail
            go_roundw
            case rel =>
              have hL15 := hL14.store 3 (.slice A14 (ms ++ [(⟨m0, m1, d2, m3⟩ : MV)]).length c14)
              have e1 : (rdN rdMV9 (k + 1) (qNM bs).2).1 = ms ++ [(⟨m0, m1, d2, m3⟩ : MV)] := by
                show (rdN rdMV9 k (qNM bs).2).1 ++ [(rdMV9 (rdN rdMV9 k (qNM bs).2).2).1] = _
                rw [← hms'.out, ← hst'.out, ep'.out]
              have e2 : (rdN rdMV9 (k + 1) (qNM bs).2).2 = (rUint (rInt (rUint (rUint st2).2).2).2).2 := by
                show (rdMV9 (rdN rdMV9 k (qNM bs).2).2).2 = _
                rw [← hst'.out]
                rfl
              have e3 : (ms ++ [(⟨m0, m1, d2, m3⟩ : MV)]).length = k + 1 := by simp [hml]
              have e4 : rLeft (rUint (rInt (rUint (rUint st2).2).2).2).2 < rLeft st2 := hdec
              refine ⟨k + 1, .slice A14 (k + 1) c14, by go_num, by omega, by rw [e2]; omega, ?_⟩
              rw [e3] at hL15
              rw [e1, e2, e3]
              exact hL15
            case measure => simp [intOf]; omega
          · have hl0 : rLeft st2 = 0 := by omega
            have hbad := hid (parse9_stopM (bs := bs) (j := k) (by rw [qNM, ← hnM'.out]; exact hkn) (by rw [← hst'.out]; exact hl0))
            obtain ⟨Av, cv, rfl, hcv, hmv⟩ := own_slice hP.own
            rw [hml] at hP hcv
            have c2 : wr.cell? ⟨w1.heap.size, 3, none⟩ = some (.slice Av k cv) := hP.pin.box.cell 3
            have hkne : ¬ (k : Int) = (nM : Int) := by omega
            have hkne2 : ¬ k = nM := by omega
            have ewk : IntKind.u64.wrap (k : Int) = (k : Int) := by rw [IntKind.wrap_u64]; omega
            have hbx := hid hP.pin.box
            have hrs := hid hP.pin.res
            go_wp2_with fail
            refine (left9_any _ g st2 _ hP.pin.rdr).mono ?_
            rintro e _ ⟨rfl, rfl⟩
            go_wp2_with (first | ((with_reducible refine at_wl ?_); (refine wpList_ldBlk rfl 27 _ rfl w1.heap.size 27 _ hbx.out _ rfl Try.underlying27 rfl info_rec ?_)) | ((with_reducible refine at_wl ?_); (refine wpList_stBlk rfl 27 _ _ rfl w.heap.size 27 _ #[.int .u64 ((pGen bs).1 : Nat), .int .u64 ((pSeq bs).1 : Nat), .slice Aw j cw, .slice Av k cv, .slice none 0 0] hrs.out rfl rfl info_rec rfl rfl ?_; intro w10 hb10 hg10)))
            refine bodyPost_ret (results_ct (cs := #[.int .u64 ((pGen bs).1 : Nat), .int .u64 ((pSeq bs).1 : Nat), .slice Aw j cw, .slice Av k cv, .slice none 0 0]) rfl rfl hb10 Try.underlying27 rfl info_rec) rfl ?_
            refine ⟨_, _, _, _, _, _, _, _, _, _, _, by rw [hbad.out]; rfl, fun e => ?_, hP.pin.bel.grown hg10 (by have := hP.pin.bel.size; omega) (by intro k hk; injection hk with hk; omega)⟩
            rw [hbad.out] at e
            cases e
        · have hkn' : k = nM := by omega
          subst hkn'
          have eM : rdN rdMV9 k (qNM bs).2 = qMs bs := by
            have e : k = (qNM bs).1 := hnM'.out
            rw [e]
            rfl
          have est : st2 = (qMs bs).2 := by rw [hst'.out, eM]
          have ems : ms = (qMs bs).1 := by rw [hms'.out, eM]
          obtain ⟨Am, cm, rfl, hcm, hmm⟩ := own_slice hP.own
          have hP' := hP
          clear hP
          rw [hml] at hP' hcm
          have hP := hP'
          clear hP'
          have c2 : wr.cell? ⟨w1.heap.size, 3, none⟩ = some (.slice Am k cm) := hP.pin.box.cell 3
          have ewk : IntKind.u64.wrap (k : Int) = (k : Int) := by rw [IntKind.wrap_u64]; omega
          have est' := hid est
          have ems' := hid ems
          clear est ems hk hkn hkl eM
          go_wp2_with fail
          refine (bytes9_any _ g _ _ hP.pin.rdr (by omega) hP.pin.hF).mono ?_
          rintro e w6 ⟨vn, rfl, hnt, hr6, hg6⟩
          obtain ⟨An, cn, rfl, hnn, hcn⟩ := hnt.form
          have hntr := hnt.rd
          have hP6 := hP.step hr6 hg6
          have c0 : w6.cell? ⟨w1.heap.size, 4, none⟩ = some (.slice none 0 0) := hP6.pin.box.cell 4
          have f0 := hP6.pin.box.frozen 4
          obtain ⟨nn, hnn2⟩ : ∃ nn, nn = (rBytes st2).1.length := ⟨_, rfl⟩
          rw [← hnn2] at hntr hnn ⊢
          have hnn2' := hid hnn2
          clear hnn2
          go_wp2_with fail
          have hP7 := hP6.store 4 (.slice An nn cn)
          have hgp : g < w1.heap.size := hP6.pin.hp
          have hsz := hP6.pin.gs
          have hbsz := hP6.hbs
          have hwz : w.heap.size ≤ wr.heap.size := hP.pin.bel.size
          have hpz := hP.pin.gs
          have hnt7 : RdB (w6.setCell ⟨w1.heap.size, 4, none⟩ (.slice An nn cn)) (fun k => k < w6.heap.size ∧ w.heap.size < k) An nn (qNt bs).1 := by
            have e : (qNt bs).1 = (rBytes st2).1 := by rw [qNt, ← est'.out]
            rw [e]
            exact (hntr.keep (fun k hk => Below.heap_setCell _ _ _ _ (by have := hk.2; simp only; omega))).more (fun k hk => ⟨by omega, by omega⟩)
          have hrw : RdW (w6.setCell ⟨w1.heap.size, 4, none⟩ (.slice An nn cn)) (fun k => k < w6.heap.size ∧ w.heap.size < k) Aw j (qWs bs).1 := by
            have e := ews'.out
            rw [e] at hownW hwl
            exact ⟨hwl.symm, ((Rd.of_own hownW).keep (fun k hk => (Below.heap_setCell _ _ _ _ (by simp only; omega)).trans (hP6.keep k hk.1 (by omega) (by omega)))).more (fun k hk => ⟨by omega, by omega⟩)⟩
          have hrm : RdM (w6.setCell ⟨w1.heap.size, 4, none⟩ (.slice An nn cn)) (fun k => k < w6.heap.size ∧ w.heap.size < k) Am k (qMs bs).1 := by
            have e := ems'.out
            have ho := hP6.own
            rw [e] at ho hml
            exact ⟨hml.symm, ((Rd.of_own ho).keep (fun k hk => Below.heap_setCell _ _ _ _ (by simp only; omega))).more (fun k hk => ⟨by omega, by omega⟩)⟩
          have hrec : RecIn (w6.setCell ⟨w1.heap.size, 4, none⟩ (.slice An nn cn)) (fun k => k < w6.heap.size ∧ w.heap.size < k) (parse9R bs) Aw j cw Am k cm An nn cn :=
            { ok := parse9R_ok bs, wr := hrw, mv := hrm, nt := hnt7, lw := hcw, lm := hcm, ln := hnn, xw := hmw, xm := hmm, xn := hcn }
          have hA : PFin 110 w g w1.heap.size w.heap.size w6.heap.size (rBytes st2).2 (parse9R bs) Aw j cw Am k cm An nn cn #[.int .u64 0, .int .u64 0, .slice none 0 0, .slice none 0 0, .slice none 0 0] (w6.setCell ⟨w1.heap.size, 4, none⟩ (.slice An nn cn)) :=
            { rdr := hP7.pin.rdr.moreF (fun k hk => ⟨by omega, hk.2⟩), rec_ := hrec, box := hP7.pin.box, res := hP7.pin.res, bel := hP7.pin.bel, hm := by simp [World.setCell], hq := Nat.le_refl _, hg := by have := hP6.pin.hl; omega, hp := hgp, hpm := hsz }
          have hL6 : rLeft (rBytes st2).2 ≤ 1000000 := Nat.le_trans rBytes_left (by omega)
          obtain ⟨w7, hw7⟩ : ∃ w7, w7 = (w6.setCell ⟨w1.heap.size, 4, none⟩ (.slice An nn cn)) := ⟨_, rfl⟩
          rw [← hw7] at hA
          rw [← hw7]
          have hok := hid (show parseOk bs = (decide (rDone (rBytes st2).2 = 0) && (parse9R bs).vld) from by rw [← parse9_ok, parse9Ok, qNt, ← est'.out])
          obtain ⟨st, hst⟩ : ∃ st, st = (rBytes st2).2 := ⟨_, rfl⟩
          rw [← hst] at hA hL6 hok
          clear hst hw7 hrec hrm hrw hnt7 hnt hntr hP7 hP6 hP hr6 hg6 c0 f0 hsz hbsz hgp hownW hL4 hL3 hL2 hnn hcn hcw hmw hcm hmm hwz hpz c2
          have hA1 := hA.drew
          obtain ⟨⟨z0, z1, z2, z3, z4⟩, zf⟩ := hA.z
          have hA0 := hA
          clear hA
          by_cases hd0 : rDone st = 0
          · have hok2 : parseOk bs = (parse9R bs).vld := by rw [hok.out, hd0]; rfl
            have hok2' := hid hok2
            clear hok2 hok
            have q0 := fun (w' : World) (hh : Blk w' w1.heap.size 27 (recCells (parse9R bs) Aw j cw Am k cm An nn cn)) => (show w'.cell? ⟨w1.heap.size, 0, none⟩ = some (.int .u64 ((parse9R bs).gen : Nat)) from hh.cell 0)
            have q1 := fun (w' : World) (hh : Blk w' w1.heap.size 27 (recCells (parse9R bs) Aw j cw Am k cm An nn cn)) => (show w'.cell? ⟨w1.heap.size, 1, none⟩ = some (.int .u64 ((parse9R bs).seq : Nat)) from hh.cell 1)
            have q2 := fun (w' : World) (hh : Blk w' w1.heap.size 27 (recCells (parse9R bs) Aw j cw Am k cm An nn cn)) => (show w'.cell? ⟨w1.heap.size, 2, none⟩ = some (.slice Aw j cw) from hh.cell 2)
            have q3 := fun (w' : World) (hh : Blk w' w1.heap.size 27 (recCells (parse9R bs) Aw j cw Am k cm An nn cn)) => (show w'.cell? ⟨w1.heap.size, 3, none⟩ = some (.slice Am k cm) from hh.cell 3)
            have q4 := fun (w' : World) (hh : Blk w' w1.heap.size 27 (recCells (parse9R bs) Aw j cw Am k cm An nn cn)) => (show w'.cell? ⟨w1.heap.size, 4, none⟩ = some (.slice An nn cn) from hh.cell 4)
            first | (go_region_held3 (fun w' => Blk w' w1.heap.size 27 (recCells (parse9R bs) Aw j cw Am k cm An nn cn)) (first | with_reducible exact hA1.box | with_reducible exact hA1.put.box | with_reducible exact hC1.box | with_reducible exact hC1.put.box) (first | (go_at_call 66; refine (done9_any (fun k => w.heap.size < k ∧ k < g) g st _ (by first | with_reducible exact hA1.rdr | with_reducible exact hA1.put.rdr) (by omega)).mono ?_; rintro e _ ⟨rfl, rfl⟩) | (go_at_call 22; refine (valid27_any (fun k => k < w6.heap.size ∧ w.heap.size < k) (parse9R bs) Aw j cw Am k cm An nn cn _ (by first | with_reducible exact hA1.rec_ | with_reducible exact hA1.put.rec_) (fun k hk => by first | (have := hA1.hm; omega) | (have := hA1.put.hm; omega))).mono ?_; rintro e w9 ⟨rfl, hbel9⟩; have hC1 := (by first | exact hA1.below hbel9 | exact hA1.put.below hbel9); try obtain ⟨⟨y0, y1, y2, y3, y4⟩, yf⟩ := hC1.z))) | fail
            all_goals go_wp2
            all_goals (refine bodyPost_ret (results_ct (cs := recCells (parse9R bs) Aw j cw Am k cm An nn cn) rfl rfl (by first | with_reducible exact hA1.put.res | with_reducible exact hC1.res | with_reducible exact hC1.put.res) Try.underlying27 rfl info_rec) rfl ?_)
            all_goals (show ParsePost w bs (.returned (.tuple #[.agg (recCells (parse9R bs) Aw j cw Am k cm An nn cn), .bool (parse9R bs).vld])) _)
            all_goals rw [← hok2'.out]
            all_goals first | with_reducible exact hA1.put.post9 | with_reducible exact hC1.post9 | with_reducible exact hC1.put.post9
          · have hok2 : parseOk bs = false := by rw [hok.out, decide_eq_false hd0]; rfl
            have hok2' := hid hok2
            clear hok2 hok
            have p0 : w7.cell? ⟨w1.heap.size, 0, none⟩ = some (.int .u64 ((parse9R bs).gen : Nat)) := hA0.box.cell 0
            have p1 : w7.cell? ⟨w1.heap.size, 1, none⟩ = some (.int .u64 ((parse9R bs).seq : Nat)) := hA0.box.cell 1
            have p2 : w7.cell? ⟨w1.heap.size, 2, none⟩ = some (.slice Aw j cw) := hA0.box.cell 2
            have p3 : w7.cell? ⟨w1.heap.size, 3, none⟩ = some (.slice Am k cm) := hA0.box.cell 3
            have p4 : w7.cell? ⟨w1.heap.size, 4, none⟩ = some (.slice An nn cn) := hA0.box.cell 4
            have hpq : ¬ w1.heap.size = w.heap.size := by have := hA0.hq; have := hA0.hg; have := hA0.hp; omega
            have hqp : ¬ w.heap.size = w1.heap.size := by omega
            go_region_with (first | (go_at_call 66; refine (done9_any (fun k => w.heap.size < k ∧ k < g) g st _ (by first | with_reducible exact hA1.rdr | with_reducible exact hA1.put.rdr | with_reducible exact hA0.put.drew.rdr) (by omega)).mono ?_; rintro e _ ⟨rfl, rfl⟩) | fail)
            all_goals go_wp2
            all_goals (refine bodyPost_ret (results_ct (cs := recCells (parse9R bs) Aw j cw Am k cm An nn cn) rfl rfl (by first | with_reducible exact hA1.put.res | with_reducible exact hA0.put.drew.res) Try.underlying27 rfl info_rec) rfl ?_)
            all_goals (show ParsePost w bs (.returned (.tuple #[.agg (recCells (parse9R bs) Aw j cw Am k cm An nn cn), .bool false])) _)
            all_goals rw [← hok2'.out]
            all_goals first | with_reducible exact hA1.put.post9 | with_reducible exact hA0.put.drew.post9

end Go.Proofs.Ytbcmpfdhpefdbaa
