/- The contract of record's parse. -/
import Derived.Test.YtbcmpfdhpefdbaaKO
import Derived.Test.YtbcmpfdhpefdbaaKJ
set_option linter.unusedVariables false
set_option linter.unusedSimpArgs false
namespace Go.Proofs.Ytbcmpfdhpefdbaa
open Go.RowKit
attribute [local irreducible] Go.Calls

theorem info_b8 : (Try.prog.info? 75).map (·.size) = some 8 := by kernel_rfl
theorem b8_one (x : B8) : x.cells.all (·.oneCell') = true := by
  simp [B8.cells, B, Value.oneCell']

/-- the element's last field is stored -/
theorem wpList_stB8 {ops : Array Oper} {rest : List Oper} {o : Oper} {a : Act} {w : World} {Q : Exit → Act → World → Prop} (hgd : o.guard = none) (x y : Operand) (ho : o.op = .store 75 x y) (g : Nat) (t : TypeId) (b : B8)
    {u0 u1 u2 d0 d1 d2 d3 d4 d5 d6 d7 : Value} (hg : Blk w g t #[u0, u1, u2, d0, d1, d2, d3, d4, d5, d6, d7]) (hx : a.eval x = .pointer (some ⟨g, 3, none⟩)) (hy : a.eval y = .agg b.cells)
    (h : ∀ w', Blk w' g t #[u0, u1, u2, B b.b0, B b.b1, B b.b2, B b.b3, B b.b4, B b.b5, B b.b6, B b.b7] → w.grownBy w' (some g) → wpList Try.prog ops Q rest (a.put o.dst undef) w') : wpList Try.prog ops Q (o :: rest) a w := by
  refine wpList_store_mid hgd 75 x y ho g 3 b.cells hx hy (fun j hj => ?_) info_b8 (b8_one b) ?_
  · rw [hg.cell, hg.frozen]
    refine ⟨?_, rfl⟩
    match j, hj with
    | 0, _ | 1, _ | 2, _ | 3, _ | 4, _ | 5, _ | 6, _ | 7, _ => rfl
  · exact h _ (hg.set8 _ _ _ _ _ _ _ _) (grown_setCells _ _ _ _ _ (only_refl _ _))

theorem wpList_apM' {ops : Array Oper} {rest : List Oper} {o : Oper} {a : Act} {w : World} {Q : Exit → Act → World → Prop} (hgd : o.guard = none) (s x : Operand)
    (ho : o.op = .call { callee := .builtin .append, args := #[s, x], argTypes := #[24, 24] })
    (base : Nat) (v : Value) (ws : List MV) (hs : a.eval s = v) (hown : OwnM base w v ws) (p : MV) (c' z : Nat) (hz : z = w.heap.size) (hx : a.eval x = .slice (some ⟨z, 0, none⟩) 1 c')
    (hlen : ws.length + 1 ≤ 1000000000) (hbase : base ≤ w.heap.size)
    (h : ∀ v' w', OwnM base w' v' (ws ++ [p]) → w.grownBy w' v.ownBlock → (v'.ownBlock = v.ownBlock ∨ v'.ownBlock = some (w.heap.size + 1)) → wpList Try.prog ops Q rest (a.put o.dst v') w') :
    wpList Try.prog ops Q (o :: rest) a (w.alloc (.cells p.cells.toArray 82)) := by
  subst hz
  exact wpList_apM hgd s x ho base v ws hs hown p c' hx hlen hbase h

set_option maxRecDepth 100000 in
set_option maxHeartbeats 4000000 in
theorem parse_any (F : Nat → Prop) (A : Option Addr) (n c : Nat) (bs : List UInt8) (w : World) (h : RdB w F A n bs) (hnc : n ≤ c) (hl : bs.length ≤ 1000000) (hF : ∀ k, F k → k < w.heap.size) :
    Calls Try.prog 68 #[.slice A n c] w (ParsePost w bs) := by
  have hbox : Blk (w.alloc (.cells #[.int .u64 0, .int .u64 0, .slice none 0 0, .slice none 0 0, .slice none 0 0] 27)) w.heap.size 27 #[.int .u64 0, .int .u64 0, .slice none 0 0, .slice none 0 0, .slice none 0 0] := Blk.new _ _ _
  have hbel0 : Below w.heap.size w (w.alloc (.cells #[.int .u64 0, .int .u64 0, .slice none 0 0, .slice none 0 0, .slice none 0 0] 27)) := (Below.refl _ _).alloc (Nat.le_refl _) _
  go_enter Try.func68, Try.ntmps68
  go_wp2_with fail
  refine (new_any F _ _ _ _ _ (h.keep (Kp.of_below hbel0 hF)) (by omega) (fun k hk => by have := hF k hk; simp; omega)).mono ?_
  rintro e w1 ⟨g, rfl, hrdr, hbel1, hgl, hgs⟩
  have hbx1 := hbox.below hbel1 (by simp)
  have hbelw1 := hbel0.trans (hbel1.mono (by simp))
  have hP0 : PIn 107 w.heap.size (w.heap.size + 1) g w1.heap.size w.heap.size w (some bs) #[.int .u64 0, .int .u64 0, .slice none 0 0, .slice none 0 0, .slice none 0 0] (w1.alloc (.cells #[.int .u64 0, .int .u64 0, .slice none 0 0, .slice none 0 0, .slice none 0 0] 27)) :=
    { rdr := (hrdr.kept' (Below.heap_alloc _ _ _ hgs) (fun k hk => Below.heap_alloc _ _ _ (by omega))).moreF (fun k hk => ⟨by have := hk.1; simp at this; omega, hk.2⟩)
      box := Blk.new _ _ _
      res := hbx1.alloc _
      bel := hbelw1.alloc hbelw1.size _
      hb := Nat.le_refl _
      hq := by omega
      hl := by simp at hgl; omega
      hp := hgs }
  clear hbox hbel0 hrdr hbel1 hbx1 hbelw1
  have hg0 : w.heap.size ≤ g := by simp at hgl; omega
  go_wp2_with fail
  refine (uint_any _ g (some bs) _ hP0.rdr (by simp only [rLeft]; omega) (fun k hk => ⟨by have := hP0.gs; omega, by omega⟩)).mono ?_
  rintro e w2 ⟨rfl, hr2, hg2⟩
  have hP1 := hP0.step hr2 hg2
  have x0 : w2.cell? ⟨w1.heap.size, 0, none⟩ = some (.int .u64 0) := hP1.box.cell 0
  have f0 := hP1.box.frozen 0
  go_wp2_with fail
  have hP2 : PIn 107 w.heap.size (w.heap.size + 1) g w1.heap.size w.heap.size w (pGen bs).2 #[.int .u64 ((pGen bs).1 : Nat), .int .u64 0, .slice none 0 0, .slice none 0 0, .slice none 0 0] _ := hP1.store 0 (.int .u64 ((pGen bs).1 : Nat))
  have hL0 : rLeft (pGen bs).2 ≤ 1000000 := Nat.le_trans rUint_left hl
  clear hP0 hP1 x0 f0 hr2 hg2
  refine (uint_any _ g _ _ hP2.rdr (by omega) (fun k hk => ⟨by have := hP2.gs; have := hP2.hp; omega, by omega⟩)).mono ?_
  rintro e w3 ⟨rfl, hr3, hg3⟩
  have hP3 := hP2.step hr3 hg3
  have x0 : w3.cell? ⟨w1.heap.size, 1, none⟩ = some (.int .u64 0) := hP3.box.cell 1
  have f0 := hP3.box.frozen 1
  go_wp2_with fail
  have hP4 : PIn 107 w.heap.size (w.heap.size + 1) g w1.heap.size w.heap.size w (pSeq bs).2 #[.int .u64 ((pGen bs).1 : Nat), .int .u64 ((pSeq bs).1 : Nat), .slice none 0 0, .slice none 0 0, .slice none 0 0] _ := hP3.store 1 (.int .u64 ((pSeq bs).1 : Nat))
  have hL1 : rLeft (pSeq bs).2 ≤ 1000000 := Nat.le_trans rUint_left hL0
  clear hP2 hP3 x0 f0 hr3 hg3
  refine (count_any _ g 64 _ _ hP4.rdr (by omega) (fun k hk => ⟨by have := hP4.gs; have := hP4.hp; omega, by omega⟩) (by decide)).mono ?_
  rintro e w4 ⟨rfl, hr4, hg4⟩
  have hP5 := hP4.step hr4 hg4
  clear hP4 hr4 hg4
  have hL2 : rLeft (pNW bs).2 ≤ 1000000 := Nat.le_trans rCount_left hL1
  obtain ⟨nW, hnW⟩ : ∃ nW, nW = (rCount 64 (pSeq bs).2).1 := ⟨_, rfl⟩
  have hnW64 : nW ≤ 64 := by rw [hnW]; exact rCount_le _ _
  rw [← hnW]
  have hnW' := hid hnW
  clear hnW
  have hLn := rdPW_left (pNW bs).2
  go_wp2_with fail
  have hlp0 := PLp.start hP5 77 11
  clear hP5
  go_loopw [30] (fun i wr => ∃ (j : Nat) (v : Value), i = .int .i64 (j : Int) ∧ j ≤ nW ∧ PLp 107 w.heap.size (w.heap.size + 1) g w1.heap.size w.heap.size w4.heap.size w w4 (rdN rdPW j (pNW bs).2).2 #[.int .u64 ((pGen bs).1 : Nat), .int .u64 ((pSeq bs).1 : Nat), v, .slice none 0 0, .slice none 0 0] 77 11 v (rdN rdPW j (pNW bs).2).1.length ((rdN rdPW j (pNW bs).2).1.flatMap PW.cells) wr) (fun i _ => nW - (intOf i).toNat)
  case atStart => exact ⟨0, _, rfl, by omega, hlp0⟩
  case round =>
    clear hlp0
    obtain ⟨j, v, rfl, hj, hP⟩ := hrel
    by_cases hjn : j < nW
    · obtain ⟨st, hst⟩ : ∃ st, st = (rdN rdPW j (pNW bs).2).2 := ⟨_, rfl⟩
      obtain ⟨ws, hws⟩ : ∃ ws, ws = (rdN rdPW j (pNW bs).2).1 := ⟨_, rfl⟩
      have hlst := hLn j
      rw [← hst] at hP hlst
      rw [← hws] at hP
      have hwl : ws.length = j := by rw [hws, rdN_len]
      have hst' := hid hst
      have hws' := hid hws
      clear hst hws hLn
      have hlst' : rLeft st ≤ 1000000 := by omega
      have hR := PRow.start hP zPWc 77
      unfold zPWc at hR
      go_wp2_with fail
      refine (count_any _ g 4096 st _ hR.lp.pin.rdr (by omega) hR.lp.pin.hF (by decide)).mono ?_
      rintro e w5 ⟨rfl, hr5, hg5⟩
      have hR5 := hR.step hr5 hg5
      have c0 : w5.cell? ⟨wr.heap.size, 0, none⟩ = some (.int .i64 0) := hR5.blk.cell 0
      have f0 := hR5.blk.frozen 0
      have l5 : rLeft (rCount 4096 st).2 ≤ 1000000 := Nat.le_trans rCount_left hlst'
      go_wp2_with fail
      have hR6 := hR5.set_ 0 (.int .i64 ((rCount 4096 st).1 : Nat))
      clear c0 f0 hR hR5 hr5 hg5
      refine (count_any _ g 16 _ _ hR6.lp.pin.rdr (by omega) hR6.lp.pin.hF (by decide)).mono ?_
      rintro e w7 ⟨rfl, hr7, hg7⟩
      have hR7 := hR6.step hr7 hg7
      have c0 : w7.cell? ⟨wr.heap.size, 1, none⟩ = some (.int .i64 0) := hR7.blk.cell 1
      have f0 := hR7.blk.frozen 1
      have l7 : rLeft (rCount 16 (rCount 4096 st).2).2 ≤ 1000000 := Nat.le_trans rCount_left l5
      go_wp2_with fail
      have hR8 := hR7.set_ 1 (.int .i64 ((rCount 16 (rCount 4096 st).2).1 : Nat))
      clear c0 f0 hR6 hR7 hr7 hg7
      refine (uint_any _ g _ _ hR8.lp.pin.rdr (by omega) hR8.lp.pin.hF).mono ?_
      rintro e w9 ⟨rfl, hr9, hg9⟩
      have hR9 := hR8.step hr9 hg9
      have c0 : w9.cell? ⟨wr.heap.size, 2, none⟩ = some (.int .u64 0) := hR9.blk.cell 2
      have f0 := hR9.blk.frozen 2
      have l9 : rLeft (rUint (rCount 16 (rCount 4096 st).2).2).2 ≤ 1000000 := Nat.le_trans rUint_left l7
      go_wp2_with fail
      have hR10 := hR9.set_ 2 (.int .u64 ((rUint (rCount 16 (rCount 4096 st).2).2).1 : Nat))
      clear c0 f0 hR8 hR9 hr9 hg9
      refine (block_any _ g _ _ hR10.lp.pin.rdr (by omega) hR10.lp.pin.hF).mono ?_
      rintro e w11 ⟨rfl, hr11, hg11⟩
      have hR11 := hR10.step hr11 hg11
      clear hR10 hr11 hg11
      obtain ⟨x8, hx8⟩ : ∃ x8, x8 = (rBlock (rUint (rCount 16 (rCount 4096 st).2).2).2).1 := ⟨_, rfl⟩
      rw [← hx8]
      have hx8' := hid hx8
      clear hx8
      have hblk11 : Blk w11 wr.heap.size 77 #[.int .i64 ((rCount 4096 st).1 : Nat), .int .i64 ((rCount 16 (rCount 4096 st).2).1 : Nat), .int .u64 ((rUint (rCount 16 (rCount 4096 st).2).2).1 : Nat), .int .u8 0, .int .u8 0, .int .u8 0, .int .u8 0, .int .u8 0, .int .u8 0, .int .u8 0, .int .u8 0] := hR11.blk
      have hblk11' := hid hblk11
      clear hblk11
      go_wp2_with (refine wpList_stB8 rfl _ _ rfl wr.heap.size 77 x8 hblk11'.out rfl rfl ?_; refine mk_stop ?_)
      intro w12 hb12 hg12
      have hR12 := hR11.turn hb12 hg12
      clear hR11 hblk11' hg12 hb12
      have hblk12 := hid hR12.blk
      have c2 : w12.cell? ⟨w1.heap.size, 2, none⟩ = some v := hR12.lp.pin.box.cell 2
      have f2 := hR12.lp.pin.box.frozen 2
      have hpz := hR12.lp.pin.gs
      go_wp2_with (first | (refine wpList_ldBlk rfl 77 _ rfl wr.heap.size 77 _ hblk12.out _ rfl Try.underlying77 rfl info_pw ?_) | (at_builtin; refine mk_stop ?_))
      refine wpList_apW rfl _ _ rfl w4.heap.size v ws rfl hR12.lp.own ⟨((rCount 4096 st).1 : Nat), ((rCount 16 (rCount 4096 st).2).1 : Nat), (rUint (rCount 16 (rCount 4096 st).2).2).1, x8⟩ _ rfl (by omega) hR12.lp.hbs ?_
      intro v' w13 hown13 hg13 hat13
      obtain ⟨A13, c13, rfl, hc13, hm13⟩ := own_slice hown13
      have hL13 := hR12.lp.append hown13 hg13
      have c2 : w13.cell? ⟨w1.heap.size, 2, none⟩ = some v := hL13.pin.box.cell 2
      have f2 := hL13.pin.box.frozen 2
      go_wp2_with fail
      go_roundw
      case rel =>
        have hL14 := hL13.store 2 (.slice A13 (ws ++ [(⟨((rCount 4096 st).1 : Nat), ((rCount 16 (rCount 4096 st).2).1 : Nat), (rUint (rCount 16 (rCount 4096 st).2).2).1, x8⟩ : PW)]).length c13)
        have e1 : (rdN rdPW (j + 1) (pNW bs).2).1 = ws ++ [⟨((rCount 4096 st).1 : Nat), ((rCount 16 (rCount 4096 st).2).1 : Nat), (rUint (rCount 16 (rCount 4096 st).2).2).1, x8⟩] := by
          show (rdN rdPW j (pNW bs).2).1 ++ [(rdPW (rdN rdPW j (pNW bs).2).2).1] = _
          rw [← hws'.out, ← hst'.out, hx8'.out]
          rfl
        have e2 : (rdN rdPW (j + 1) (pNW bs).2).2 = (rBlock (rUint (rCount 16 (rCount 4096 st).2).2).2).2 := by
          show (rdPW (rdN rdPW j (pNW bs).2).2).2 = _
          rw [← hst'.out]
          rfl
        have e3 : (ws ++ [(⟨((rCount 4096 st).1 : Nat), ((rCount 16 (rCount 4096 st).2).1 : Nat), (rUint (rCount 16 (rCount 4096 st).2).2).1, x8⟩ : PW)]).length = j + 1 := by simp [hwl]
        refine ⟨j + 1, .slice A13 (j + 1) c13, by go_num, by omega, ?_⟩
        rw [e3] at hL14
        rw [e1, e2, e3]
        exact hL14
      case measure => simp [intOf]; omega
    · have hjn' : j = nW := by omega
      subst hjn'
      have eW : rdN rdPW j (pNW bs).2 = pWs bs := by rw [hnW'.out]; rfl
      rw [eW] at hP
      have hL3 : rLeft (pWs bs).2 ≤ 1000000 := by have := hLn j; rw [eW] at this; omega
      clear hLn eW hj hjn hL0 hL1
      have hz4 := hP.hpb
      go_wp2_with fail
      refine (count_any _ g 64 _ _ hP.pin.rdr (by omega) hP.pin.hF (by decide)).mono ?_
      rintro e w5 ⟨rfl, hr5, hg5⟩
      have hP5 := hP.step hr5 hg5
      clear hP hr5 hg5
      have hL4 : rLeft (pNM bs).2 ≤ 1000000 := Nat.le_trans rCount_left hL3
      obtain ⟨nM, hnM⟩ : ∃ nM, nM = (rCount 64 (pWs bs).2).1 := ⟨_, rfl⟩
      have hnM64 : nM ≤ 64 := by rw [hnM]; exact rCount_le _ _
      rw [← hnM]
      have hnM' := hid hnM
      clear hnM
      have hLn := rdMV_left (pNM bs).2
      have hownW := hP5.own
      have hz5 := hP5.hbs
      go_wp2_with fail
      have hlp0 := PLp.start hP5.pin 82 4
      clear hP5
      go_loopw [69] (fun i wr => ∃ (k : Nat) (v2 : Value), i = .int .i64 (k : Int) ∧ k ≤ nM ∧ PLp 107 w.heap.size (w.heap.size + 1) g w1.heap.size w.heap.size w5.heap.size w w5 (rdN rdMV k (pNM bs).2).2 #[.int .u64 ((pGen bs).1 : Nat), .int .u64 ((pSeq bs).1 : Nat), v, v2, .slice none 0 0] 82 4 v2 (rdN rdMV k (pNM bs).2).1.length ((rdN rdMV k (pNM bs).2).1.flatMap MV.cells) wr) (fun i _ => nM - (intOf i).toNat)
      case atStart => exact ⟨0, _, rfl, by omega, hlp0⟩
      case round =>
        clear hlp0
        obtain ⟨k, v2, rfl, hk, hP⟩ := hrel
        by_cases hkn : k < nM
        · obtain ⟨st, hst⟩ : ∃ st, st = (rdN rdMV k (pNM bs).2).2 := ⟨_, rfl⟩
          obtain ⟨ms, hms⟩ : ∃ ms, ms = (rdN rdMV k (pNM bs).2).1 := ⟨_, rfl⟩
          have hlst := hLn k
          rw [← hst] at hP hlst
          rw [← hms] at hP
          have hml : ms.length = k := by rw [hms, rdN_len]
          have hst' := hid hst
          have hms' := hid hms
          clear hst hms hLn
          have hlst' : rLeft st ≤ 1000000 := by omega
          have hR := PRow.start hP zMVc 82
          unfold zMVc at hR
          go_wp2_with fail
          refine (count_any _ g 4096 st _ hR.lp.pin.rdr (by omega) hR.lp.pin.hF (by decide)).mono ?_
          rintro e w6 ⟨rfl, hr6, hg6⟩
          have hR6 := hR.step hr6 hg6
          have c0 : w6.cell? ⟨wr.heap.size, 0, none⟩ = some (.int .i64 0) := hR6.blk.cell 0
          have f0 := hR6.blk.frozen 0
          have l6 : rLeft (rCount 4096 st).2 ≤ 1000000 := Nat.le_trans rCount_left hlst'
          go_wp2_with fail
          have hR7 := hR6.set_ 0 (.int .i64 ((rCount 4096 st).1 : Nat))
          clear c0 f0 hR hR6 hr6 hg6
          refine (count_any _ g 16 _ _ hR7.lp.pin.rdr (by omega) hR7.lp.pin.hF (by decide)).mono ?_
          rintro e w8 ⟨rfl, hr8, hg8⟩
          have hR8 := hR7.step hr8 hg8
          have c0 : w8.cell? ⟨wr.heap.size, 1, none⟩ = some (.int .i64 0) := hR8.blk.cell 1
          have f0 := hR8.blk.frozen 1
          have l8 : rLeft (rCount 16 (rCount 4096 st).2).2 ≤ 1000000 := Nat.le_trans rCount_left l6
          go_wp2_with fail
          have hR9 := hR8.set_ 1 (.int .i64 ((rCount 16 (rCount 4096 st).2).1 : Nat))
          clear c0 f0 hR7 hR8 hr8 hg8
          refine (int_any _ g _ _ hR9.lp.pin.rdr (by omega) hR9.lp.pin.hF).mono ?_
          rintro e w10 ⟨rfl, hr10, hg10⟩
          have hR10 := hR9.step hr10 hg10
          have c0 : w10.cell? ⟨wr.heap.size, 2, none⟩ = some (.int .i64 0) := hR10.blk.cell 2
          have f0 := hR10.blk.frozen 2
          have l10 : rLeft (rInt (rCount 16 (rCount 4096 st).2).2).2 ≤ 1000000 := Nat.le_trans rInt_left l8
          go_wp2_with fail
          have hR11 := hR10.set_ 2 (.int .i64 ((rInt (rCount 16 (rCount 4096 st).2).2).1))
          clear c0 f0 hR9 hR10 hr10 hg10
          refine (count_any _ g 65536 _ _ hR11.lp.pin.rdr (by omega) hR11.lp.pin.hF (by decide)).mono ?_
          rintro e w12 ⟨rfl, hr12, hg12⟩
          have hR12 := hR11.step hr12 hg12
          have c0 : w12.cell? ⟨wr.heap.size, 3, none⟩ = some (.int .i64 0) := hR12.blk.cell 3
          have f0 := hR12.blk.frozen 3
          have hR13 := hR12.set_ 3 (.int .i64 ((rCount 65536 (rInt (rCount 16 (rCount 4096 st).2).2).2).1 : Nat))
          have hblk13 := hid hR13.blk
          have c2 : w12.cell? ⟨w1.heap.size, 3, none⟩ = some v2 := hR12.lp.pin.box.cell 3
          have f2 := hR12.lp.pin.box.frozen 3
          have hpz := hR12.lp.pin.gs
          have hpz2 := hR12.lp.hpb
          have hpz3 := hR12.hz
          have hpne : ¬ wr.heap.size = w1.heap.size := by omega
          have hpne2 : ¬ w1.heap.size = wr.heap.size := by omega
          go_wp2_with (first | (refine wpList_ldBlk rfl 82 _ rfl wr.heap.size 82 _ hblk13.out _ rfl Try.underlying82 rfl info_mv ?_) | (at_builtin; refine mk_stop ?_))
          refine wpList_apM' rfl _ _ rfl w5.heap.size v2 ms rfl hR13.lp.own (⟨((rCount 4096 st).1 : Nat), ((rCount 16 (rCount 4096 st).2).1 : Nat), (rInt (rCount 16 (rCount 4096 st).2).2).1, ((rCount 65536 (rInt (rCount 16 (rCount 4096 st).2).2).2).1 : Nat)⟩ : MV) _ w12.heap.size (by simp [World.setCell]) rfl (by omega) hR13.lp.hbs ?_
          intro v' w14 hown14 hg14 hat14
          obtain ⟨A14, c14, rfl, hc14, hm14⟩ := own_slice hown14
          have hL14 := hR13.lp.append hown14 hg14
          have c2 : w14.cell? ⟨w1.heap.size, 3, none⟩ = some v2 := hL14.pin.box.cell 3
          have f2 := hL14.pin.box.frozen 3
          go_wp2_with fail
          go_roundw
          case rel =>
            have hL15 := hL14.store 3 (.slice A14 (ms ++ [(⟨((rCount 4096 st).1 : Nat), ((rCount 16 (rCount 4096 st).2).1 : Nat), (rInt (rCount 16 (rCount 4096 st).2).2).1, ((rCount 65536 (rInt (rCount 16 (rCount 4096 st).2).2).2).1 : Nat)⟩ : MV)]).length c14)
            have e1 : (rdN rdMV (k + 1) (pNM bs).2).1 = ms ++ [(⟨((rCount 4096 st).1 : Nat), ((rCount 16 (rCount 4096 st).2).1 : Nat), (rInt (rCount 16 (rCount 4096 st).2).2).1, ((rCount 65536 (rInt (rCount 16 (rCount 4096 st).2).2).2).1 : Nat)⟩ : MV)] := by
              show (rdN rdMV k (pNM bs).2).1 ++ [(rdMV (rdN rdMV k (pNM bs).2).2).1] = _
              rw [← hms'.out, ← hst'.out]
              rfl
            have e2 : (rdN rdMV (k + 1) (pNM bs).2).2 = (rCount 65536 (rInt (rCount 16 (rCount 4096 st).2).2).2).2 := by
              show (rdMV (rdN rdMV k (pNM bs).2).2).2 = _
              rw [← hst'.out]
              rfl
            have e3 : (ms ++ [(⟨((rCount 4096 st).1 : Nat), ((rCount 16 (rCount 4096 st).2).1 : Nat), (rInt (rCount 16 (rCount 4096 st).2).2).1, ((rCount 65536 (rInt (rCount 16 (rCount 4096 st).2).2).2).1 : Nat)⟩ : MV)]).length = k + 1 := by simp [hml]
            refine ⟨k + 1, .slice A14 (k + 1) c14, by go_num, by omega, ?_⟩
            rw [e3] at hL15
            rw [e1, e2, e3]
            exact hL15
          case measure => simp [intOf]; omega
        · have hkn' : k = nM := by omega
          subst hkn'
          have eM : rdN rdMV k (pNM bs).2 = pMs bs := by rw [hnM'.out]; rfl
          rw [eM] at hP
          have hL5 : rLeft (pMs bs).2 ≤ 1000000 := by have := hLn k; rw [eM] at this; omega
          clear hLn eM hk hkn
          go_wp2_with fail
          refine (bytes_any _ g _ _ hP.pin.rdr (by omega) hP.pin.hF).mono ?_
          rintro e w6 ⟨An, nn, cn, rfl, hnn, hcn, hnt, hr6, hg6⟩
          have hP6 := hP.step hr6 hg6
          have c0 : w6.cell? ⟨w1.heap.size, 4, none⟩ = some (.slice none 0 0) := hP6.pin.box.cell 4
          have f0 := hP6.pin.box.frozen 4
          go_wp2_with fail
          have hP7 := hP6.store 4 (.slice An nn cn)
          obtain ⟨Aw, cw, hvw, hcw, hmw⟩ := own_slice hownW
          obtain ⟨Am, cm, hvm, hcm, hmm⟩ := own_slice hP6.own
          subst hvw
          subst hvm
          have hgp : g < w1.heap.size := hP6.pin.hp
          have hsz := hP6.pin.gs
          have hbsz := hP6.hbs
          have hnn' := hnt.1
          have hnt7 : RdB (w6.setCell ⟨w1.heap.size, 4, none⟩ (.slice An nn cn)) (fun k => k < w6.heap.size ∧ w.heap.size < k) An nn (pNt bs).1 := (hnt.keep (fun k hk => Below.heap_setCell _ _ _ _ (by simp only; omega))).more (fun k hk => ⟨by have := hP6.pin.hF k hk; have := (hP.pin.hF k hk).1; omega, by omega⟩)
          have hrw : RdW (w6.setCell ⟨w1.heap.size, 4, none⟩ (.slice An nn cn)) (fun k => k < w6.heap.size ∧ w.heap.size < k) Aw (pWs bs).1.length (pWs bs).1 :=
            ⟨rfl, ((Rd.of_own hownW).keep (fun k hk => (Below.heap_setCell _ _ _ _ (by simp only; omega)).trans (hP6.keep k hk.1 (by omega) (by omega)))).more (fun k hk => ⟨by omega, by omega⟩)⟩
          have hrm : RdM (w6.setCell ⟨w1.heap.size, 4, none⟩ (.slice An nn cn)) (fun k => k < w6.heap.size ∧ w.heap.size < k) Am (pMs bs).1.length (pMs bs).1 :=
            ⟨rfl, ((Rd.of_own hP6.own).keep (fun k hk => Below.heap_setCell _ _ _ _ (by simp only; omega))).more (fun k hk => ⟨by omega, by omega⟩)⟩
          have hrec : RecIn (w6.setCell ⟨w1.heap.size, 4, none⟩ (.slice An nn cn)) (fun k => k < w6.heap.size ∧ w.heap.size < k) (parseR bs) Aw (pWs bs).1.length cw Am (pMs bs).1.length cm An nn cn :=
            { ok := parseR_ok bs, wr := hrw, mv := hrm, nt := hnt7, lw := hcw, lm := hcm, ln := hnn, xw := hmw, xm := hmm, xn := hcn }
          have hA : PFin 107 w g w1.heap.size w.heap.size w6.heap.size (rBytes (pMs bs).2).2 (parseR bs) Aw (pWs bs).1.length cw Am (pMs bs).1.length cm An nn cn #[.int .u64 0, .int .u64 0, .slice none 0 0, .slice none 0 0, .slice none 0 0] (w6.setCell ⟨w1.heap.size, 4, none⟩ (.slice An nn cn)) :=
            { rdr := hP7.pin.rdr.moreF (fun k hk => ⟨by omega, hk.2⟩), rec_ := hrec, box := hP7.pin.box, res := hP7.pin.res, bel := hP7.pin.bel, hm := by simp [World.setCell], hq := Nat.le_refl _, hg := by have := hP6.pin.hl; omega, hp := hgp, hpm := hsz }
          have hL6 : rLeft (rBytes (pMs bs).2).2 ≤ 1000000 := Nat.le_trans rBytes_left hL5
          obtain ⟨w7, hw7⟩ : ∃ w7, w7 = w6.setCell ⟨w1.heap.size, 4, none⟩ (.slice An nn cn) := ⟨_, rfl⟩
          rw [← hw7] at hA
          rw [← hw7]
          have hok := hid (show parseOk bs = (decide (rDone (rBytes (pMs bs).2).2 = 0) && (parseR bs).vld) from rfl)
          obtain ⟨st, hst⟩ : ∃ st, st = (rBytes (pMs bs).2).2 := ⟨_, rfl⟩
          rw [← hst] at hA hL6 hok
          clear hst hw7 hrec hrm hrw hnt7 hnt hP7 hP6 hP hr6 hg6 c0 f0 hsz hbsz hgp hownW hnn' hL5 hL4 hL3 hL2 hnn hcn hcw hmw hcm hmm
          have hA1 := hA.drew
          obtain ⟨⟨z0, z1, z2, z3, z4⟩, zf⟩ := hA.z
          have hA0 := hA
          clear hA
          by_cases hd0 : rDone st = 0
          · have hok2 : parseOk bs = (parseR bs).vld := by rw [hok.out, hd0]; rfl
            have hok2' := hid hok2
            clear hok2 hok
            have q0 := fun (w' : World) (hh : Blk w' w1.heap.size 27 (recCells (parseR bs) Aw (pWs bs).1.length cw Am (pMs bs).1.length cm An nn cn)) => (show w'.cell? ⟨w1.heap.size, 0, none⟩ = some (.int .u64 ((parseR bs).gen : Nat)) from hh.cell 0)
            have q1 := fun (w' : World) (hh : Blk w' w1.heap.size 27 (recCells (parseR bs) Aw (pWs bs).1.length cw Am (pMs bs).1.length cm An nn cn)) => (show w'.cell? ⟨w1.heap.size, 1, none⟩ = some (.int .u64 ((parseR bs).seq : Nat)) from hh.cell 1)
            have q2 := fun (w' : World) (hh : Blk w' w1.heap.size 27 (recCells (parseR bs) Aw (pWs bs).1.length cw Am (pMs bs).1.length cm An nn cn)) => (show w'.cell? ⟨w1.heap.size, 2, none⟩ = some (.slice Aw (pWs bs).1.length cw) from hh.cell 2)
            have q3 := fun (w' : World) (hh : Blk w' w1.heap.size 27 (recCells (parseR bs) Aw (pWs bs).1.length cw Am (pMs bs).1.length cm An nn cn)) => (show w'.cell? ⟨w1.heap.size, 3, none⟩ = some (.slice Am (pMs bs).1.length cm) from hh.cell 3)
            have q4 := fun (w' : World) (hh : Blk w' w1.heap.size 27 (recCells (parseR bs) Aw (pWs bs).1.length cw Am (pMs bs).1.length cm An nn cn)) => (show w'.cell? ⟨w1.heap.size, 4, none⟩ = some (.slice An nn cn) from hh.cell 4)
            go_region_held3 (fun w' => Blk w' w1.heap.size 27 (recCells (parseR bs) Aw (pWs bs).1.length cw Am (pMs bs).1.length cm An nn cn))
              (first | with_reducible exact hA1.box | with_reducible exact (hA1.put).box | with_reducible exact hC1.box | with_reducible exact (hC1.put).box)
              (first | (go_at_call 62; refine (done_any (fun k => w.heap.size < k ∧ k < g) g st _ (by first | with_reducible exact hA1.rdr | with_reducible exact (hA1.put).rdr) (by omega)).mono ?_; rintro e _ ⟨rfl, rfl⟩) | (go_at_call 21; refine (valid_any (fun k => k < w6.heap.size ∧ w.heap.size < k) (parseR bs) Aw _ cw Am _ cm An nn cn _ (by first | with_reducible exact hA1.rec_ | with_reducible exact (hA1.put).rec_) (fun k hk => by first | (have := hA1.hm; omega) | (have := (hA1.put).hm; omega))).mono ?_; rintro e w9 ⟨rfl, hbel9⟩; have hC1 := (by first | exact hA1.below hbel9 | exact (hA1.put).below hbel9); try obtain ⟨⟨y0, y1, y2, y3, y4⟩, yf⟩ := hC1.z))
            all_goals go_wp2
            all_goals (refine bodyPost_ret (results_ct (cs := recCells (parseR bs) Aw (pWs bs).1.length cw Am (pMs bs).1.length cm An nn cn) rfl rfl (by first | with_reducible exact (hA1.put).res | with_reducible exact hC1.res | with_reducible exact (hC1.put).res) Try.underlying27 rfl info_rec) rfl ?_)
            all_goals (show ParsePost w bs (.returned (.tuple #[.agg (recCells (parseR bs) Aw (pWs bs).1.length cw Am (pMs bs).1.length cm An nn cn), .bool (parseR bs).vld])) _)
            all_goals rw [← hok2'.out]
            all_goals first | with_reducible exact (hA1.put).post | with_reducible exact hC1.post | with_reducible exact (hC1.put).post
          · have hok2 : parseOk bs = false := by rw [hok.out, decide_eq_false hd0]; rfl
            have hok2' := hid hok2
            clear hok2 hok
            have p0 : w7.cell? ⟨w1.heap.size, 0, none⟩ = some (.int .u64 ((parseR bs).gen : Nat)) := hA0.box.cell 0
            have p1 : w7.cell? ⟨w1.heap.size, 1, none⟩ = some (.int .u64 ((parseR bs).seq : Nat)) := hA0.box.cell 1
            have p2 : w7.cell? ⟨w1.heap.size, 2, none⟩ = some (.slice Aw (pWs bs).1.length cw) := hA0.box.cell 2
            have p3 : w7.cell? ⟨w1.heap.size, 3, none⟩ = some (.slice Am (pMs bs).1.length cm) := hA0.box.cell 3
            have p4 : w7.cell? ⟨w1.heap.size, 4, none⟩ = some (.slice An nn cn) := hA0.box.cell 4
            have hpq : ¬ w1.heap.size = w.heap.size := by have := hA0.hq; have := hA0.hg; have := hA0.hp; omega
            have hqp : ¬ w.heap.size = w1.heap.size := by omega
            go_region_with (first | (go_at_call 62; refine (done_any (fun k => w.heap.size < k ∧ k < g) g st _ (by first | with_reducible exact hA1.rdr | with_reducible exact hA1.put.rdr | with_reducible exact hA0.put.drew.rdr) (by omega)).mono ?_; rintro e _ ⟨rfl, rfl⟩) | fail)
            all_goals go_wp2
            all_goals (refine bodyPost_ret (results_ct (cs := recCells (parseR bs) Aw (pWs bs).1.length cw Am (pMs bs).1.length cm An nn cn) rfl rfl (by first | with_reducible exact (hA1.put).res | with_reducible exact (hA0.put).drew.res) Try.underlying27 rfl info_rec) rfl ?_)
            all_goals (show ParsePost w bs (.returned (.tuple #[.agg (recCells (parseR bs) Aw (pWs bs).1.length cw Am (pMs bs).1.length cm An nn cn), .bool false])) _)
            all_goals rw [← hok2'.out]
            all_goals first | with_reducible exact (hA1.put).post | with_reducible exact (hA0.put).drew.post

end Go.Proofs.Ytbcmpfdhpefdbaa
